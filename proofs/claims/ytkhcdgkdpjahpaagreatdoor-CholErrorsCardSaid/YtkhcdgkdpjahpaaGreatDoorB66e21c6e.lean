/-
  Parts of the proof: Fw1, Fw2, Fw3, Fw4, Fw5, Fw6, Fw7, Fw8, Fw40, Fw41, Fw9, Fw10, Fw11, Fw12, Fw13, Fw14, Fw15, Fw16, Fw17, Fw18, Fw19, Fw20: the framework (Fw), pure forms (Dn), plain laws (Pl, Th), calls of functions (Ok).
-/
import Derived.Laws.AppendOwn
import Derived.ArgAppend
import Derived.Laws.IdiomCopy
import Derived.Laws.Cells
import Derived.Laws.MakeOwn
import Derived.Calls
import Derived.Orders
import Derived.Laws.Entries
import Derived.Maps.RangeRun

set_option linter.all false
set_option maxHeartbeats 1000000
theorem U{p:Prop}(h:p:=by omega):p:=h
theorem aa{p:Prop}(h:p:=by decide):p:=h
theorem ab{p:Prop}(h:p:=by simp):p:=h
abbrev ah:=@if_neg
abbrev al:=@if_pos
abbrev aQ:=@Option.bind_some
abbrev a2:=@Nat.le_refl
abbrev a5:=@Bool.and_eq_true
abbrev bj:=@Nat.lt_or_ge
abbrev bt:=@Nat.le_trans
abbrev bA:=@List.getElem?_eq_getElem
abbrev bH:=@Option.some.injEq
abbrev bS:=@Option.bind_eq_some_iff
abbrev c4:=@List.mem_map
abbrev dj:=@List.getElem_mem
abbrev dk:=@List.mem_cons
abbrev dp:=@Option.some.inj
abbrev du:=@Int.toNat_natCast
abbrev dv:=@Nat.pow_add
abbrev dC:=@List.take_of_length_le
abbrev dG:=@Nat.mul_le_mul_right
abbrev dH:=@Option.map_eq_some_iff
abbrev dW:=@Nat.eq_of_beq_eq_true
abbrev ea:=@Int.eq_ofNat_of_zero_le
abbrev eb:=@Int.le_of_lt
abbrev ec:=@List.getElem?_eq_some_iff
abbrev eo:=@Nat.le_of_ble_eq_true
abbrev ew:=@List.all_eq_true
abbrev eD:=@List.length_take
abbrev eH:=@List.map_cons
abbrev eI:=@List.mem_append
abbrev eJ:=@List.mem_cons_of_mem
abbrev eL:=@Nat.zero_le
abbrev eV:=@List.mem_singleton
abbrev e2:=@Nat.add_mul
abbrev e8:=@Nat.two_pow_pos
abbrev e9:=@Prod.mk.injEq
abbrev fd:=@List.cons.injEq
abbrev fv:=@Nat.mul_assoc
abbrev fF:=@Nat.lt_of_lt_of_le
abbrev fG:=@Nat.one_mul
abbrev fP:=@Int.mul_assoc
abbrev fW:=@Nat.min_eq_left
abbrev gn:=@List.getElem?_map
abbrev gp:=@List.mem_filter
abbrev gE:=@Bool.or_eq_true
abbrev gG:=@Int.mul_comm
abbrev gR:=@List.length_map
abbrev g6:=@Int.emod_add_mul_ediv
abbrev g7:=@Int.lt_or_le
abbrev g8:=@List.length_cons
abbrev g9:=@List.mem_iff_getElem
abbrev ha:=@List.mem_range
abbrev hb:=@List.nil_append
abbrev hg:=@List.pairwise_iff_getElem
abbrev hh:=@Nat.eq_zero_or_pos
abbrev hj:=@Nat.mul_comm
abbrev hk:=@Option.bind_assoc
abbrev hl:=@Option.map_some
abbrev ht:=@List.map_congr_left
abbrev hu:=@List.nodup_append
abbrev hD:=@List.getElem?_eq_none
abbrev hE:=@List.mem_flatten
abbrev hH:=@Nat.mul_le_mul
abbrev hI:=@Nat.pow_succ
abbrev h2:=@Int.natAbs_natCast
abbrev h3:=@List.cons_append
abbrev h4:=@List.ext_getElem?
abbrev h5:=@List.getD_eq_getElem?_getD
abbrev h6:=@List.map_append
abbrev h7:=@List.nodup_cons
abbrev h8:=@Nat.zero_add
abbrev iC:=@Int.pow_add
abbrev iE:=@List.flatten_cons
abbrev iF:=@List.getElem?_cons_zero
abbrev i7:=@Int.mul_le_mul_of_nonneg_left
abbrev i9:=@Int.pow_pos
abbrev jq:=@List.length_filter_le
abbrev jT:=@Int.le_refl
abbrev jU:=@Int.mul_le_mul_of_nonneg_right
abbrev jV:=@Int.natAbs_mul
abbrev jW:=@Int.zero_mul
abbrev jX:=@List.getElem?_drop
abbrev jY:=@List.getElem?_set_self
abbrev jZ:=@List.length_append
abbrev j0:=@List.mem_of_getElem?
abbrev j1:=@List.take_add_one
abbrev j2:=@Nat.le_of_lt
abbrev j3:=@Nat.mul_le_mul_left
abbrev kp:=@Bool.not_true
abbrev kq:=@Int.mul_nonneg
abbrev kr:=@List.getElem?_set_ne
abbrev ks:=@List.getElem?_take_of_lt
abbrev kt:=@List.length_drop
abbrev ku:=@List.mem_append_right
abbrev kv:=@List.take_append_drop
abbrev k5:=@Int.ediv_nonneg
abbrev k6:=@List.append_assoc
abbrev k7:=@List.eq_nil_of_length_eq_zero
abbrev k8:=@List.filter_cons
abbrev k9:=@List.getElem?_append_left
abbrev lK:=@Array.getElem?_eq_some_iff
abbrev lL:=@Bool.not_false
abbrev lN:=@List.filter_eq_self
abbrev lO:=@List.getElem?_append_right
abbrev lP:=@List.getElem?_replicate
abbrev lQ:=@List.mem_append_left
abbrev lR:=@List.mem_cons_self
abbrev lS:=@Nat.add_sub_cancel_left
abbrev lT:=@Nat.add_zero
abbrev mA:=@Int.mul_pos
abbrev mB:=@Int.natCast_mul
abbrev mE:=@List.any_eq_true
abbrev mF:=@List.drop_zero
abbrev nm:=@Array.mem_append_right
abbrev np:=@Bool.eq_iff_iff
abbrev nr:=@Int.ediv_eq_zero_of_lt
abbrev ns:=@Int.emod_eq_of_lt
abbrev nt:=@Int.emod_nonneg
abbrev nu:=@Int.natAbs_neg
abbrev nv:=@List.drop_eq_nil_of_le
abbrev nw:=@List.filter_append
abbrev nx:=@List.getElem?_cons_succ
abbrev ny:=@List.length_replicate
abbrev nz:=@Nat.pow_le_pow_right
abbrev oC:=@Int.emod_lt_of_pos
abbrev oD:=@List.drop_drop
abbrev oE:=@List.flatten_append
abbrev oF:=@List.length_nil
abbrev oG:=@List.pairwise_cons
abbrev oH:=@List.range_succ
abbrev oI:=@List.size_toArray
abbrev oJ:=@Nat.beq_refl
abbrev p4:=@Int.ediv_ediv_of_nonneg
abbrev p5:=@Int.ediv_lt_of_lt_mul
abbrev p6:=@List.all_cons
abbrev p7:=@List.append_nil
abbrev p8:=@List.count_append
abbrev p9:=@List.drop_append_of_le_length
abbrev qa:=@List.drop_of_length_le
abbrev qb:=@List.map_map
abbrev qc:=@List.perm_iff_count
abbrev qd:=@List.take_append_of_le_length
abbrev qe:=@Nat.div_add_mod
abbrev qf:=@Nat.lt_trichotomy
abbrev qg:=@Nat.mul_left_comm
abbrev rz:=@Array.replicate_succ
abbrev rA:=@Array.replicate_zero
abbrev rE:=@Int.add_mul_ediv_left
abbrev rF:=@Int.ediv_le_self
abbrev rG:=@Int.mul_lt_mul_of_pos_right
abbrev rH:=@List.any_eq_false
abbrev rI:=@List.append_toArray
abbrev rJ:=@List.getElem?_take
abbrev rK:=@List.getElem_set_ne
abbrev rL:=@List.length_eq_one_iff
abbrev rM:=@List.push_toArray
abbrev rN:=@Nat.div_le_self
abbrev rP:=@Option.getD_some
abbrev tl:=@Array.getElem?_eq_getElem
abbrev tm:=@Array.getElem?_modify
abbrev tn:=@Array.getElem?_toList
abbrev ts:=@Int.add_mul_emod_self_left
abbrev tu:=@Int.mul_left_comm
abbrev tv:=@Int.natCast_ediv
abbrev tw:=@List.append_of_mem
abbrev tx:=@List.filter_cons_of_neg
abbrev tz:=@List.map_toArray
abbrev tA:=@List.mem_toArray
abbrev tB:=@List.not_mem_nil
abbrev tC:=@List.pairwise_map
abbrev tD:=@List.take_length
abbrev tF:=@Nat.add_sub_cancel
abbrev tG:=@Nat.le_add_right
abbrev tH:=@Nat.le_div_iff_mul_le
abbrev wc:=@Array.getD_eq_getD_getElem?
abbrev wg:=@Int.fdiv_eq_ediv_of_nonneg
abbrev wh:=@Int.tdiv_eq_ediv_of_nonneg
abbrev wi:=@Int.tmod_eq_emod_of_nonneg
abbrev wj:=@List.filter_cons_of_pos
abbrev wk:=@List.find?_eq_none
abbrev wl:=@List.getElem?_range
abbrev wm:=@Nat.testBit_two_pow
abbrev wq:=@Option.isSome_some
abbrev zF:=@Array.getElem?_setIfInBounds_ne
abbrev zN:=@List.mem_of_find?_eq_some
abbrev zO:=@Nat.mul_lt_mul_of_pos_right
abbrev zP:=@Option.isSome_iff_exists
abbrev b1:=List Int×(Option (List (List Int)×Unit)×Unit)×Unit
abbrev b2:=Int×(List (List Int)×Unit)×List (List Bool)×Unit
abbrev b3:=(List (List Int)×Unit)×List (List Bool)×Unit
abbrev b4:=(Int×List Bool×Unit)⊕(List Bool×Unit)
abbrev b5:=(List (List Int)×Unit)×List Int×Unit
abbrev b6:=Int×(List Int×(List Int×Unit))×Unit
abbrev b8:=(Int×Int×Unit)⊕(Unit⊕(Bool×Unit))
abbrev b9:=(List Int×(List Int×Unit))×Unit
abbrev ca:=(List (List Int)×Unit)×Int×Unit
abbrev cb:=(Int×Unit)⊕(Unit⊕(Int×Unit))
abbrev cc:=(List (List Int)×Unit)×Unit
abbrev cd:=List Int×(List Int×Unit)
abbrev cf:=List (List Bool)×Unit
abbrev cg:=List (List Int)×Unit
abbrev ch:=Int×List Bool×Unit
abbrev cj:=List Int×Int×Unit
abbrev ck:=Int×List Int×Unit
abbrev cl:=Nat×Nat×List Nat
abbrev cm:=Unit⊕(Bool×Unit)
abbrev cn:=Unit⊕(Int×Unit)
abbrev cp:=List Bool×Unit
abbrev cq:=Int×Bool×Unit
abbrev cr:=List Int×Unit
abbrev ct:=Bool×Int×Unit
abbrev cu:=Int×Int×Unit
abbrev cw:=Bool×Unit
abbrev cx:=Int×Unit
abbrev cy:=Nat×Nat
abbrev cz:=List (List Go.Value)
abbrev cA:=Option (List Int)
abbrev cB:=List (Option Int)
abbrev cC:=List (List Bool)
abbrev cD:=List (List Nat)
abbrev cE:=List (List Int)
abbrev cF:=Option Go.Operand
abbrev cG:=Array Go.Value
abbrev cH:=List Go.TypeId
abbrev cI:=List Go.Value
abbrev cJ:=Option Int
abbrev cK:=Option Nat
abbrev cL:=List Bool
abbrev cM:=Option cw
abbrev cN:=Option cx
abbrev cO:=List Nat
abbrev cP:=List Int
abbrev cQ:=List cy
noncomputable section
namespace Go.h1
variable{a w H:TypeId}{b h:Operand}{c g N P:Nat}{e k:World}{i A:cI}{l F V:Nat->Prop}{n:cO}{p:Nat->cI}{q:Nat->cO}{r T:Option Addr}{s:Exit->Act->World->Prop}{t:Array MapEntry}{u:IntKind}{y G:Type}{B:cG}{D:Array (Nat×Operand)}{E:Value}{O:Program}{S:Int}
inductive bO where
 |bn
 |dO
 deriving DecidableEq
variable{f:bO->Nat->Prop}{Q:bO}
inductive af where
 |int (k:IntKind)
 |bool
 |str
 |aV (m:bO) (t:af)
 |ptr (m:bO) (t:af)
 |osl (t:af)
 |optr (t:af)
 |st (t:af)
 |pr (a b:af)
 |nil
 |bP
 |mp (t:af)
 |dh (m:bO) (t:af)
 deriving DecidableEq
variable{d o R:af}{j:List (Nat×af)}
def af.size:af->Nat
 |.pr a b=>a.size+b.size
 |.st c=>c.size
 |.nil|.bP=>0
 |_=>1
@[reducible] def af.den:af->Type
 |.int _=>Int
 |.bool=>Bool
 |.str=>ByteArray
 |.aV _ a=>List a.den
 |.ptr _ a=>Option a.den
 |.osl a=>List a.den
 |.optr a=>a.den
 |.st a=>a.den
 |.pr b c=>b.den×c.den
 |.nil=>Unit
 |.bP=>Unit
 |.mp a=>Option (List (Int×a.den)×Nat)
 |.dh _ a=>Option (List (Int×a.den)×Nat)
def hF {d:Type} (b:List (Int×Nat×d)) (c:List (Int×d)) (g:Nat):Prop:=
 c.Pairwise (λe f=>e.1<f.1)/\(b.map λa=>(a.1,a.2.2)).Perm c/\(b.map λa=>a.2.1).Nodup/\∀a∈b,a.2.1<g
def bp:af->cI->Value
 |.st _,a=>.agg a.toArray
 |_,a=>a.headD undef
def dt (f:World) (c e:Nat) (d:cI):Prop:=∀a b,d[a]?=some b->f.cell? ⟨c,e+a,none⟩=some b
def gQ (c:World) (b e d:Nat):Prop:=∀a,e<=a->a<d->(c.cell? ⟨b,a,none⟩).isSome=true/\c.frozen? ⟨b,a,none⟩=false
def gx (d:World) (a:Nat):Option (Array MapEntry×Nat):=match d.heap[a]? with
 |some (.map c b)=>some (c,b)
 |_=>none
def bB (c d:World) (a:Nat):Prop:=(∀b,d.cell? ⟨a,b,none⟩=c.cell? ⟨a,b,none⟩/\d.frozen? ⟨a,b,none⟩=c.frozen? ⟨a,b,none⟩)/\gx d a=gx c a
def bB.refl (a:World) (b:Nat):bB a a b:=⟨λ_=>⟨rfl,rfl⟩,rfl⟩
theorem bB.of_heap (b:k.heap[c]?=e.heap[c]?):bB e k c:=
 ⟨λd=>⟨World.cell?_of_block (a:=⟨c,d,none⟩) b,World.frozen?_of_block (a:=⟨c,d,none⟩) b⟩,by grind [gx]⟩
def h0 (j k:World) (d:Nat):Prop:=∀f b,gx j d=some (f,b)->∃g e,gx k d=some (g,e)/\b<=e/\∀(h:Nat) (a:MapEntry),g[h]?=some a->a.born<b->∃(i:Nat) (c:MapEntry),f[i]?=some c/\c.key=a.key/\c.born=a.born
def h0.of_eq (f:gx k c=gx e c):h0 e k c:=
 λd a h=>⟨d,a,f.trans h,a2 _,λi b g _=>⟨i,b,g,rfl,rfl⟩⟩
def h0.refl (a:World) (b:Nat):h0 a a b:=.of_eq rfl
def h0.of_heap {b c:World} {a:Nat} (d:c.heap[a]?=b.heap[a]?):h0 b c a:=.of_eq (bB.of_heap d).2
theorem h0.trans {a:World} (h:h0 e k c) (i:h0 k a c):h0 e a c:=λf b l=>by obtain⟨g,d,j,o,p⟩:=h f b l;obtain⟨n,m,q,r,s⟩:=i g d j;grind
def dt.dV (a:dt e c g i) (d:bB e k c):dt k c g i:=
 λf h b=>by rw[(d.1 _).1];exact a f h b
def gQ.dV (b:gQ e c N g) (a:bB e k c):gQ k c N g:=
 λh d f=>by rw[(a.1 _).1,(a.1 _).2];exact b h d f
def aG (i:bO->Nat->Prop) (f:World):(A:af)->cI->A.den->cO->Prop
 |.int x,b,y,d=>d=[]/\b=[.int x y]
 |.bool,b,a,d=>d=[]/\b=[.bool a]
 |.str,b,z,d=>d=[]/\b=[.string z]
 |.aV s c,b,l,d=>d=[]/\∃k n,b=[.slice k l.length n]/\l.length<=n/\(k=none->n=0)/\(l=[]\/∃a h,k=some ⟨a,h,none⟩/\i s a/\∀j g,l[j]?=some g->∃e,e.length=c.size/\dt f a (h+j*c.size) e/\aG i f c e g [])
 |.ptr s c,b,g,d=>d=[]/\match g with
  |none=>b=[.pointer none]
  |some v=>∃a h e,b=[.pointer (some ⟨a,h,none⟩)]/\i s a/\e.length=c.size/\dt f a h e/\aG i f c e v []
 |.osl c,b,l,d=>∃k n,b=[.slice k l.length n]/\((
   k=none/\l=[]/\n=0/\d=[])\/∃(a h:Nat) (t:cD),k=some ⟨a,h,none⟩/\d=a::t.flatten/\t.length=l.length/\l.length<=n/\
   gQ f a h (h+n*c.size)/\∀j g r,l[j]?=some g->t[j]?=some r->∃e,e.length=c.size/\dt f a (h+j*c.size) e/\aG i f c e g r)
 |.optr c,b,v,d=>∃a h r e,b=[.pointer (some ⟨a,h,none⟩)]/\d=a::r/\e.length=c.size/\dt f a h e/\gQ f a h (h+c.size)/\aG i f c e v r
 |.st c,b,g,d=>aG i f c b g d
 |.pr k a,b,g,d=>∃w f2,d=w++f2/\aG i f k (b.take k.size) g.1 w/\aG i f a (b.drop k.size) g.2 f2
 |.nil,b,_,d=>d=[]/\b=[]
 |.bP,b,_,_=>b=[]
 |.mp c,b,g,d=>match g with
  |none=>d=[]/\b=[.map none]
  |some (u,q)=>∃(a:Nat) (p:Array MapEntry) (o:List (Int×Nat×c.den)),b=[.map (some a)]/\d=[a]/\hF o u q/\gx f a=some (p,q)/\p.size=o.length/\∀(j:Nat) (m:Int×Nat×c.den),o[j]?=some m->∃e:cI,e.length=c.size/\p[j]?=some (MapEntry.mk (.int .i64 m.1) (bp c e) m.2.1)/\aG i f c e m.2.2 []
 |.dh s c,b,g,d=>match g with
  |none=>d=[]/\b=[.map none]
  |some (u,q)=>∃(a:Nat) (p:Array MapEntry) (o:List (Int×Nat×c.den)),b=[.map (some a)]/\d=[]/\hF o u q/\i s a/\gx f a=some (p,q)/\p.size=o.length/\∀(j:Nat) (m:Int×Nat×c.den),o[j]?=some m->∃e:cI,e.length=c.size/\p[j]?=some (MapEntry.mk (.int .i64 m.1) (bp c e) m.2.1)/\aG i f c e m.2.2 []
theorem aG.len {i:bO->Nat->Prop} {r:World}:∀{τ:af} {e:cI} {b:τ.den} {l:cO},aG i r τ e b l->e.length=τ.size
 |.int _,_,_,_,a=>by rw[a.2];rfl
 |.bool,_,_,_,a=>by rw[a.2];rfl
 |.str,_,_,_,a=>by rw[a.2];rfl
 |.aV _ _,_,_,_,a=>by obtain⟨_,c,g,a,_⟩:=a;rw[a];rfl
 |.ptr _ _,_,b,_,a=>by
  obtain⟨_,a⟩:=a;cases b with
  |none=>simp only at a;rw[a];rfl
  |some w=>obtain⟨d,v,j,a,_⟩:=a;rw[a];rfl
 |.osl _,_,_,_,a=>by obtain⟨c,g,a,_⟩:=a;rw[a];rfl
 |.optr _,_,_,_,a=>by obtain⟨c,g,s,j,a,_⟩:=a;rw[a];rfl
 |.st f,_,_,_,a=>aG.len (τ:=f) a
 |.pr c d,e,_,_,a=>by obtain⟨t,f2,_,m,n⟩:=a;have o:=aG.len (τ:=c) m;have p:=aG.len (τ:=d) n;simp only[eD,kt] at o p;show e.length=c.size+d.size;omega
 |.nil,_,_,_,a=>by rw[a.2];rfl
 |.bP,_,_,_,a=>by rw[show _=[] from a];rfl
 |.mp f,_,b,_,a=>by
  cases b with
  |none=>rw[a.2];rfl
  |some q=>obtain⟨d,k,h,a,_⟩:=a;rw[a];rfl
 |.dh u f,_,b,_,a=>by
  cases b with
  |none=>rw[a.2];rfl
  |some q=>obtain⟨d,k,h,a,_⟩:=a;rw[a];rfl
theorem aG.one {j:bO->Nat->Prop} {r:World}:∀{τ:af} {cs:cI} {c:τ.den} {l:cO},aG j r τ cs c l->∀e∈cs,e.oneCell'=true
 |.int _,_,_,_,a=>by rw[a.2];simp[Value.oneCell']
 |.bool,_,_,_,a=>by rw[a.2];simp[Value.oneCell']
 |.str,_,_,_,a=>by rw[a.2];simp[Value.oneCell']
 |.aV _ _,_,_,_,a=>by obtain⟨_,d,h,a,_⟩:=a;grind [Value.oneCell']
 |.ptr _ _,_,c,_,a=>by obtain⟨_,a⟩:=a;grind [Value.oneCell']
 |.osl _,_,_,_,a=>by obtain⟨d,h,a,_⟩:=a;grind [Value.oneCell']
 |.optr _,_,_,_,a=>by obtain⟨d,h,f,s,a,_⟩:=a;grind [Value.oneCell']
 |.st t,_,_,_,a=>aG.one (τ:=t) a
 |.pr d g,cs,_,_,a=>by
  obtain⟨u,f2,_,m,n⟩:=a;have o:=aG.one (τ:=d) m;have p:=aG.one (τ:=g) n;intro e b;rw[<-kv d.size cs] at b;rcases eI.1 b with b|b
  ·exact o e b
  exact p e b
 |.nil,_,_,_,a=>by rw[a.2];simp
 |.bP,_,_,_,a=>by rw[show _=[] from a];simp
 |.mp t,_,c,_,a=>by
  cases c with
  |none=>rw[a.2];simp[Value.oneCell']
  |some q=>obtain⟨g,k,i,a,_⟩:=a;grind [Value.oneCell']
 |.dh v t,_,c,_,a=>by
  cases c with
  |none=>rw[a.2];simp[Value.oneCell']
  |some q=>obtain⟨g,k,i,a,_⟩:=a;grind [Value.oneCell']
theorem aG.mono {L M:bO->Nat->Prop} {A B:World} (d:∀j a,L j a->M j a/\bB A B a):∀{τ:af} {E:cI} {g:τ.den} {w:cO},aG L A τ E g w->(∀a∈w,bB A B a)->aG M B τ E g w
 |.int _,_,_,_,b,_=>b
 |.bool,_,_,_,b,_=>b
 |.str,_,_,_,b,_=>b
 |.aV j v,_,T,_,b,_=>by obtain⟨H,x,D,e,c,k,l⟩:=b;refine⟨H,x,D,e,c,k,l.imp id ?_⟩;rintro⟨a,u,J,i,K⟩;refine⟨a,u,J,(d j a i).1,λt g s=>?_⟩;obtain⟨h,n,o,p⟩:=K t g s;exact⟨h,n,o.dV (d j a i).2,aG.mono d p ab⟩
 |.ptr j v,_,g,_,b,_=>by
  obtain⟨H,b⟩:=b;refine⟨H,?_⟩;cases g with
  |none=>exact b
  |some U=>
   obtain⟨a,u,h,e,c,k,l,q⟩:=b;exact⟨a,u,h,e,(d j a c).1,k,l.dV (d j a c).2,aG.mono d q ab⟩
 |.osl v,_,T,w,b,f=>by obtain⟨x,D,e,c⟩:=b;refine⟨x,D,e,c.imp id ?_⟩;rintro⟨a,u,O,J,y,S,r,R,K⟩;have i:bB A B a:=f a (by grind);refine⟨a,u,O,J,y,S,r,R.dV i,λt g G s Q=>?_⟩;obtain⟨h,n,o,p⟩:=K t g G s Q;refine⟨h,n,o.dV i,aG.mono d p (λm r=>f m ?_)⟩;grind [List.mem_cons_of_mem,List.mem_flatten,List.mem_of_getElem?]
 |.optr v,_,_,_,b,f=>by obtain⟨a,u,G,h,e,c,k,l,q,P⟩:=b;have i:bB A B a:=f a (by grind);exact⟨a,u,G,h,e,c,k,l.dV i,q.dV i,aG.mono d P (λm r=>f m (by grind))⟩
 |.st v,_,_,_,b,f=>aG.mono (τ:=v) d b f
 |.pr x a,E,_,_,b,f=>by obtain⟨N,f2,y,e,c⟩:=b;exact⟨N,f2,y,aG.mono (τ:=x) d e (λm r=>f m (by rw[y];exact lQ _ r)),aG.mono (τ:=a) d c (λm r=>f m (by rw[y];exact ku _ r))⟩
 |.nil,_,_,_,b,_=>b
 |.bP,_,_,_,b,_=>b
 |.mp v,_,g,w,b,f=>by
  cases g with
  |none=>exact b
  |some z=>
   obtain⟨a,F,C,e,c,I,k,l,q⟩:=b;refine⟨a,F,C,e,c,I,(f a (by rw[c];simp)).2.trans k,l,λt z s=>?_⟩;obtain⟨h,n,o,p⟩:=q t z s;exact⟨h,n,o,aG.mono d p ab⟩
 |.dh j v,_,g,w,b,f=>by
  cases g with
  |none=>exact b
  |some z=>
   obtain⟨a,F,C,e,c,I,i,k,l,q⟩:=b;refine⟨a,F,C,e,c,I,(d j a i).1,(d j a i).2.2.trans k,l,λt z s=>?_⟩;obtain⟨h,n,o,p⟩:=q t z s;exact⟨h,n,o,aG.mono d p ab⟩
def af.hS:af->Bool
 |.bP=>false
 |.aV _ a|.ptr _ a|.osl a|.optr a|.st a|.mp a|.dh _ a=>a.hS
 |.pr b c=>b.hS&&c.hS
 |_=>true
theorem aG.uniq {r:bO->Nat->Prop} {x:World}:∀{τ:af} {p:cI} {e k:τ.den} {h u:cO},τ.hS=true->aG r x τ p e h->aG r x τ p k u->h=u
 |.int _,_,_,_,_,_,_,a,b=>a.1.trans b.1.symm
 |.bool,_,_,_,_,_,_,a,b=>a.1.trans b.1.symm
 |.str,_,_,_,_,_,_,a,b=>a.1.trans b.1.symm
 |.aV _ _,_,_,_,_,_,_,a,b=>a.1.trans b.1.symm
 |.ptr _ _,_,_,_,_,_,_,a,b=>a.1.trans b.1.symm
 |.nil,_,_,_,_,_,_,a,b=>a.1.trans b.1.symm
 |.bP,_,_,_,_,_,d,_,_=>by cases d
 |.dh F g,p,e,k,h,u,_,a,b=>by
  have an:∀{e:(af.dh F g).den} {h:cO},aG r x (.dh F g) p e h->h=[]:=λ{e h} a=>by
   cases e with
   |none=>exact a.1
   |some Q=>obtain⟨l,C,y,_,m,_⟩:=a;exact m
  grind
 |.mp g,_,e,k,_,_,_,a,b=>by
  cases e with
  |none=>
   cases k with
   |none=>exact a.1.trans b.1.symm
   |some R=>
    obtain⟨l,C,y,f,_⟩:=b;have:=a.2.symm.trans f;grind
  |some Q=>
   obtain⟨l,C,y,f,m,_⟩:=a;cases k with
   |none=>
    have:=f.symm.trans b.2;grind
   |some R=>
    obtain⟨A,ap,W,i,D,_⟩:=b;grind
 |.st g,_,_,_,_,_,d,a,b=>aG.uniq (τ:=g) d a b
 |.pr z l,_,_,_,_,_,d,a,b=>by simp only[af.hS,a5] at d;obtain⟨a0,f2,rfl,f,m⟩:=a;obtain⟨a3,a4,rfl,E,v⟩:=b;rw[aG.uniq (τ:=z) d.1 f E,aG.uniq (τ:=l) d.2 m v]
 |.optr g,_,_,_,_,_,d,a,b=>by
  obtain⟨l,O,h,j,f,rfl,E,v,_,L⟩:=a;obtain⟨A,P,av,n,i,rfl,bl,K,_,M⟩:=b;rw[f] at i;simp only[fd,Value.pointer.injEq,bH,Addr.mk.injEq,and_true] at i;obtain⟨rfl,rfl⟩:=i;obtain rfl:j=n:=by
   apply h4;intro c;rcases bj c j.length with w|w
   ·have aq:=v c j[c] (by grind);have S:=K c (n[c]'(by omega)) ab
    grind
   grind
  rw[aG.uniq (τ:=g) d L M]
 |.osl g,_,e,k,_,_,d,a,b=>by
  obtain⟨z,Y,f,m⟩:=a;obtain⟨X,Z,i,D⟩:=b;rw[f] at i;simp only[fd,Value.slice.injEq,and_true] at i;obtain⟨rfl,bs,rfl⟩:=i;rcases m with⟨rfl,rfl,rfl,rfl⟩|⟨l,O,s,rfl,rfl,aq,S,co,T⟩
  ·grind
  rcases D with⟨q,_⟩|⟨A,P,t,q,rfl,ce,ci,cs,V⟩
  ·cases q
  simp only[bH,Addr.mk.injEq,and_true] at q;obtain⟨rfl,rfl⟩:=q;have:s=t:=by
   apply h4;intro c;rcases bj c e.length with w|w
   ·have ai:s[c]?=some (s[c]'(by omega)):=bA U
    have B:t[c]?=some (t[c]'(by omega)):=bA U
    obtain⟨j,ad,G,I⟩:=T c e[c] _ (by grind) ai;obtain⟨n,am,H,J⟩:=V c (k[c]'(by omega)) _ ab B
    obtain rfl:j=n:=by
     apply h4;intro o;rcases bj o j.length with N|N
     ·have cv:=G o j[o] (by grind);have dl:=H o (n[o]'(by omega)) ab
      grind
     grind
    rw[ai,B,aG.uniq (τ:=g) d I J]
   grind
  grind
inductive aO where
 |idx (i:Nat)
 |deref
 |unst
 |fst
 |snd
 deriving DecidableEq
variable{m:List aO}
def bN:(τ:af)->τ.den->List aO->(a:af)->a.den->Prop
 |τ,d,[],a,b=>∃i:τ=a,i▸d=b
 |.osl e,k,.idx j::c,a,b=>∃f,k[j]?=some f/\bN e f c a b
 |.optr e,d,.deref::c,a,b=>bN e d c a b
 |.st e,d,.unst::c,a,b=>bN e d c a b
 |.pr g _,d,.fst::c,a,b=>bN g d.1 c a b
 |.pr _ h,d,.snd::c,a,b=>bN h d.2 c a b
 |_,_,_,_,_=>False
def df:(τ:af)->τ.den->List aO->(a:af)->a.den->τ.den->Prop
 |τ,_,[],a,b,e=>∃m:τ=a,m▸e=b
 |.osl g,j,.idx i::c,a,b,n=>∃h f,j[i]?=some h/\df g h c a b f/\n=j.set i f
 |.optr g,d,.deref::c,a,b,e=>df g d c a b e
 |.st g,d,.unst::c,a,b,e=>df g d c a b e
 |.pr k _,d,.fst::c,a,b,e=>∃f,df k d.1 c a b f/\e=(f,d.2)
 |.pr _ l,d,.snd::c,a,b,e=>∃f,df l d.2 c a b f/\e=(d.1,f)
 |_,_,_,_,_,_=>False
theorem bN.en {a:d.den} {b:o.den}:bN d a [] o b↔∃c:d=o,c▸a=b:=by cases d<;>exact Iff.rfl
theorem df.en {e a:d.den} {b:o.den}:df d e [] o b a↔∃c:d=o,c▸a=b:=by cases d<;>exact Iff.rfl
abbrev Loc:=Option cy
variable{v:Loc}
def aJ (k:World):(τ:af)->Loc->cI->List aO->(a:af)->Loc->cI->Prop
 |τ,i,b,[],a,d,c=>τ=a/\i=d/\b=c
 |.osl g,_,b,.idx m::f,a,d,c=>∃e j n p h,b=[.slice (some ⟨e,j,none⟩) n p]/\m<n/\h.length=g.size/\dt k e (j+m*g.size) h/\aJ k g (some (e,j+m*g.size)) h f a d c
 |.optr g,_,b,.deref::f,a,d,c=>∃e j h,b=[.pointer (some ⟨e,j,none⟩)]/\h.length=g.size/\dt k e j h/\aJ k g (some (e,j)) h f a d c
 |.st g,i,b,.unst::f,a,d,c=>aJ k g i b f a d c
 |.pr l _,i,b,.fst::f,a,d,c=>aJ k l i (b.take l.size) f a d c
 |.pr l e,i,b,.snd::f,a,d,c=>aJ k e (i.map λo=>(o.1,o.2+l.size)) (b.drop l.size) f a d c
 |_,_,_,_,_,_,_=>False
theorem dt.eq (b:dt e c g i) (d:dt e c g A) (k:i.length=A.length):i=A:=by
 apply h4;intro a;rcases bj a i.length with f|f
 ·have h:=b a i[a] (by grind);have j:=d a (A[a]'(by omega)) ab
  grind
 grind
theorem aJ.hn {w:World}:∀{p:List aO} {e:af} {j:Loc} {f:cI} {u v:af} {g h:Loc} {q r:cI},aJ w e j f p u g q->aJ w e j f p v h r->u=v/\g=h/\q=r
 |[],e,j,f,_,_,_,_,_,_,c,d=>by grind [aJ]
 |s::p,e,j,f,_,_,_,_,_,_,c,d=>by
  cases e<;>cases s<;>simp only[aJ] at c d
  case osl.idx t i=>
   obtain⟨m,A,E,C,y,ai,_,g,k,n⟩:=c;obtain⟨x,B,F,D,z,b,_,h,l,o⟩:=d;rw[ai] at b;simp only[fd,Value.slice.injEq,bH,Addr.mk.injEq,and_true] at b;obtain⟨⟨rfl,rfl⟩,rfl,rfl⟩:=b;obtain rfl:=k.eq l U;exact aJ.hn n o
  case optr.deref t=>
   obtain⟨m,A,y,ai,g,k,n⟩:=c;obtain⟨x,B,z,b,h,l,o⟩:=d;rw[ai] at b;simp only[fd,Value.pointer.injEq,bH,Addr.mk.injEq,and_true] at b;obtain⟨rfl,rfl⟩:=b;obtain rfl:=k.eq l U;exact aJ.hn n o
  case st.unst t=>exact aJ.hn c d
  case pr.fst a m=>exact aJ.hn c d
  case pr.snd a m=>exact aJ.hn c d
def oB (c d:World) (f:Loc) (g:Nat) (b:Nat):Prop:=
 (∀a,(∀e,f=some (b,e)->a<e\/e+g<=a)->d.cell? ⟨b,a,none⟩=c.cell? ⟨b,a,none⟩)/\
 (∀a,d.frozen? ⟨b,a,none⟩=c.frozen? ⟨b,a,none⟩)/\(∀a,(d.cell? ⟨b,a,none⟩).isSome=(c.cell? ⟨b,a,none⟩).isSome)/\gx d b=gx c b
def oB.dV (a:oB e k v g c) (f:∀b,v≠some (c,b)):bB e k c:=
 ⟨λd=>⟨a.1 d (λb h=>absurd h (f b)),a.2.1 d⟩,a.2.2.2⟩
def oB.Fc (a:oB e k v P c) (f:gQ e c N g):gQ k c N g:=
 λh b d=>by rw[a.2.1,a.2.2.1];exact f h b d
def mG (c:World) (e:Loc) (d:cI) (f:Nat):Prop:=∀b a,e=some (b,a)->dt c b a d/\gQ c b a (a+f)
theorem dt.take {e:World} {b d h:Nat} {c:cI} (f:dt e b d c):dt e b d (c.take h):=λg i a=>by
 rw[rJ] at a;split at a
 ·exact f g i a
 grind
theorem dt.drop {f:World} {b e a:Nat} {c:cI} (g:dt f b e c):dt f b (e+a) (c.drop a):=λh i d=>by rw[jX] at d;have:=g (a+h) i d;grind
theorem dt.append (d:dt e c g i) (f:dt e c (g+i.length) A):dt e c g (i++A):=λh b a=>by
 rw[List.getElem?_append] at a;split at a
 ·exact d h b a
 have:=f _ b a;grind
theorem SN {a:List y} {d:y} (e:a[c]?=some d):∃b f,a=b++d::f/\b.length=c:=by obtain⟨g,rfl⟩:=ec.1 e;exact⟨a.take c,a.drop (c+1),by rw[List.getElem_cons_drop,kv],by grind⟩
theorem aJ.dV {D:bO->Nat->Prop} {y C:World}:∀{x:List aO} {τ:af} {u:Loc} {h:cI} {z:τ.den} {p:cO} {A:af} {v:Loc} {n:cI},aG D y τ h z p->(∀a∈p,bB y C a)->aJ y τ u h x A v n->aJ C τ u h x A v n
 |[],τ,_,_,_,_,_,_,_,_,_,b=>by cases τ<;>exact b
 |s::x,τ,u,h,z,p,A,v,n,g,d,b=>by
  cases τ<;>cases s<;>simp only[aJ] at b
  case osl.idx t i=>
   obtain⟨a,w,V,F,o,rfl,N,q,f,r⟩:=b;obtain⟨m,Q,e,k⟩:=g;simp only[fd,Value.slice.injEq,and_true] at e;obtain⟨rfl,rfl,rfl⟩:=e;rcases k with⟨j,_⟩|⟨E,O,K,j,rfl,aq,W,X,P⟩
   ·cases j
   simp only[bH,Addr.mk.injEq,and_true] at j;obtain⟨rfl,rfl⟩:=j;obtain⟨I,R,G,H⟩:=P i z[i] (K[i]'(by omega)) (by grind) ab
   obtain rfl:=f.eq G U;exact⟨a,w,_,F,o,rfl,N,q,f.dV (d a ab),aJ.dV H (λc l=>d c (eJ _ (hE.2 ⟨_,dj U,l⟩))) r⟩
  case optr.deref t=>
   obtain⟨a,w,o,rfl,q,f,r⟩:=b;obtain⟨E,O,S,I,B,rfl,T,L,_,M⟩:=g;simp only[fd,Value.pointer.injEq,bH,Addr.mk.injEq,and_true] at B;obtain⟨rfl,rfl⟩:=B;obtain rfl:=f.eq L U;exact⟨a,w,o,rfl,q,f.dV (d a ab),aJ.dV M (λc l=>d c (by grind)) r⟩
  case st.unst t=>exact aJ.dV (τ:=t) g d b
  case pr.fst m a=>
   obtain⟨J,f2,rfl,e,k⟩:=g;exact aJ.dV (τ:=m) e (λc l=>d c (by grind)) b
  case pr.snd m a=>
   obtain⟨J,f2,rfl,e,k⟩:=g;exact aJ.dV (τ:=a) k (λc l=>d c (by grind)) b
def mb:List aO->Bool
 |[]=>false
 |.idx _::_=>true
 |.deref::_=>true
 |_::a=>mb a
def eP:List aO->List aO->Bool
 |p,[]=>mb p
 |.idx _::p,.idx _::a=>eP p a
 |.deref::p,.deref::a=>eP p a
 |.unst::p,.unst::a=>eP p a
 |.fst::p,.fst::a=>eP p a
 |.snd::p,.snd::a=>eP p a
 |.fst::_,.snd::_=>true
 |.snd::_,.fst::_=>true
 |_,_=>false
theorem aJ.kU {a:Loc}:aJ e d v i [] o a A↔d=o/\v=a/\i=A:=by cases d<;>exact Iff.rfl
def ig:List aO->List aO->Bool
 |.deref::a,.deref::b=>ig a b
 |.unst::a,.unst::b=>ig a b
 |.fst::a,.fst::b=>ig a b
 |.snd::a,.snd::b=>ig a b
 |.fst::_,.snd::_=>true
 |.snd::_,.fst::_=>true
 |_,_=>false
theorem qF (a:List aO):ig [] a=false:=by cases a<;>rfl
theorem yb:∀{p q:List aO},ig p q=true->eP p q=true
 |[],q,a=>by grind [qF]
 |s::p,[],a=>by cases s<;>cases a
 |s::p,b::q,a=>by cases s<;>cases b<;>first|(cases a;done)|exact yb (p:=p) (q:=q) a|rfl
theorem qG:∀{p q:List aO} {τ:af} {h j:τ.den} {k f:af} {l:k.den} {i:f.den},ig p q=true->df τ h p k l j->bN τ h q f i->bN τ j q f i
 |[],q,_,_,_,_,_,_,_,d,_,_=>by grind [qF]
 |s::p,[],_,_,_,_,_,_,_,d,_,_=>by cases s<;>cases d
 |s::p,m::q,τ,h,j,k,f,l,i,d,c,e=>by
  cases τ<;>cases s<;>simp only[df] at c<;>cases m<;>first|(cases d;done)|(simp only[bN] at e;done)|skip
  case optr.deref.deref t=>exact qG (p:=p) (q:=q) (τ:=t) d c e
  case st.unst.unst t=>exact qG (p:=p) (q:=q) (τ:=t) d c e
  case pr.fst.fst a b=>
   obtain⟨g,c,rfl⟩:=c;exact qG (p:=p) (q:=q) (τ:=a) d c e
  case pr.snd.snd a b=>
   obtain⟨g,c,rfl⟩:=c;exact qG (p:=p) (q:=q) (τ:=b) d c e
  case pr.fst.snd a b=>
   obtain⟨g,c,rfl⟩:=c;exact e
  case pr.snd.fst a b=>
   obtain⟨g,c,rfl⟩:=c;exact e
theorem aG.sub {B:bO->Nat->Prop} {A:World}:∀{p:List aO} {τ:af} {z:Loc} {o:cI} {m:τ.den} {q:cO} {l:af} {r:l.den} {y:Loc} {n:cI},aG B A τ o m q->bN τ m p l r->aJ A τ z o p l y n->∃d,aG B A l n r d/\∀b∈d,b∈q
 |[],τ,z,o,m,q,l,r,y,n,f,c,a=>by grind [aJ.kU,bN.en]
 |s::p,τ,z,o,m,q,l,r,y,n,f,c,a=>by
  cases τ<;>cases s<;>simp only[bN] at c<;>simp only[aJ] at a
  case osl.idx t i=>
   obtain⟨J,D,c⟩:=c;obtain⟨G,Q,ad,W,I,e,u,L,v,a⟩:=a;obtain⟨T,V,rfl,f⟩:=f;rcases f with⟨_,rfl,_⟩|⟨F,P,C,rfl,rfl,Z,X,N,O⟩
   ·grind
   have Y:i<m.length:=(ec.1 D).1;obtain⟨d,E⟩:∃d,C[i]?=some d:=⟨C[i],bA U⟩;obtain⟨H,M,w,x⟩:=O i J d D E;simp only[fd,Value.slice.injEq,bH,Addr.mk.injEq,and_true] at e;obtain⟨⟨rfl,rfl⟩,rfl,rfl⟩:=e;obtain rfl:=v.eq w U;obtain⟨g,j,k⟩:=aG.sub (p:=p) x c a;exact⟨g,j,λb h=>eJ _ (hE.2 ⟨d,j0 E,k b h⟩)⟩
  case optr.deref t=>
   obtain⟨G,Q,I,e,L,v,a⟩:=a;obtain⟨F,P,d,H,rfl,rfl,M,w,N,x⟩:=f;simp only[fd,Value.pointer.injEq,bH,Addr.mk.injEq,and_true] at e;obtain⟨rfl,rfl⟩:=e;obtain rfl:=v.eq w U;obtain⟨g,j,k⟩:=aG.sub (p:=p) x c a;exact⟨g,j,λb h=>eJ _ (k b h)⟩
  case st.unst t=>exact aG.sub (p:=p) (τ:=t) f c a
  case pr.fst R S=>
   obtain⟨K,f2,rfl,e,u⟩:=f;obtain⟨g,j,k⟩:=aG.sub (p:=p) e c a;exact⟨g,j,λb h=>lQ _ (k b h)⟩
  case pr.snd R S=>
   obtain⟨K,f2,rfl,e,u⟩:=f;obtain⟨g,j,k⟩:=aG.sub (p:=p) u c a;exact⟨g,j,λb h=>ku _ (k b h)⟩
theorem u3:∀(Y:List aO) {τ:af} {loc:Loc} {u:cI} {an:τ.den} {fp:cO} {F:af} {jn:F.den},aG f e τ u an fp->mG e loc u τ.size->fp.Nodup->(∀g d,loc=some (g,d)->g∉fp/\∀q,¬f q g)->(∀g∈fp,∀q,¬f q g)->bN τ an Y F jn->∃y S a0 V,aJ e τ loc u Y F y S/\aG f e F S jn a0/\mG e y S F.size/\fp.Perm (a0++V)/\(∀m h,y=some (m,h)->(∃d,loc=some (m,d)/\d<=h/\h+F.size<=d+τ.size)\/m∈V)/\(∀(
   s:World) (K:bO->Nat->Prop) (D:cI) (z:F.den) (W:cO) (d1:τ.den),
   (∀q g,f q g->K q g)->(∀g,(∃q,f q g)\/g∈V\/(∃d,loc=some (g,d))->oB e s y F.size g)->
   aG K s F D z W->(y=none->Y≠[]->D=S)->(∀g d,y=some (g,d)->dt s g d D)->df τ an Y F z d1->
   ∃n N,aG K s τ n d1 N/\(Y=[]->n=D)/\(loc=none->(y≠none\/D=S)->n=u)/\(∀g d,loc=some (g,d)->dt s g d n)/\N.Perm (W++V)/\aJ s τ loc n Y F y D/\∀(c:List aO) (Q:af) (P:Loc) (M:cI),eP Y c=true->aJ e τ loc u c Q P M->aJ s τ loc n c Q P M)/\
  (∀(c:List aO) (ap:af) (z:ap.den) (ad:Loc) (dl:cI) (f2:cO),ig Y c=true->ap.hS=true->bN τ an c ap z->aJ e τ loc u c ap ad dl->aG f e ap dl z f2->∀b∈f2,b∈V/\∀m h,y=some (m,h)->b≠m):=by
 intro Y
 induction Y with
 |nil=>
  intro τ loc u an fp F jn em co d9 X cs H;obtain⟨rfl,rfl⟩:=bN.en.1 H;refine⟨loc,u,fp,[],(by cases τ<;>exact⟨rfl,rfl,rfl⟩),em,co,ab,λm h a=>.inl ⟨h,a,U,U⟩,?_,λc _ _ _ _ _ a=>by grind [qF]⟩;intro s K D z W d1 _ _ A _ O B;obtain⟨_,rfl⟩:=df.en.1 B;exact⟨D,W,A,λ_=>rfl,λci a=>a.resolve_left (λc=>c ci),O,ab,(by cases τ<;>exact⟨rfl,rfl,rfl⟩),λc _ _ _ o=>by grind [eP,mb]⟩
 |cons rt Y hs=>
  intro τ loc u an fp F jn em co d9 X cs H;cases τ<;>cases rt<;>simp only[bN] at H
  case osl.idx t i=>
   obtain⟨av,fz,H⟩:=H;obtain⟨tf,fn,rfl,em⟩:=em;rcases em with⟨_,rfl,_⟩|⟨g,d,f9,rfl,rfl,ne,pm,i1,lo⟩
   ·simp at fz
   have lb:i<an.length:=(ec.1 fz).1;obtain⟨go,mp⟩:∃go,f9[i]?=some go:=⟨f9[i],bA U⟩;obtain⟨ge,kg,f7,k0⟩:=lo i av go fz mp;obtain⟨d0,i8,fT,rs⟩:=SN mp;have t3:∀w,w<an.length->d+w*t.size+t.size<=d+fn*t.size:=λw o=>(by have:(w+1)*t.size<=fn*t.size:=dG _ U;grind);have f8:mG e (some (g,d+i*t.size)) ge t.size:=(by rintro R r a;simp only[bH,e9] at a;obtain⟨rfl,rfl⟩:=a;exact⟨f7,λx l O=>i1 x U (by grind)⟩);have lk:=d9;rw[fT] at lk;simp only[oE,iE,h7,hu,eI,not_or] at lk;obtain⟨⟨os,f5,pl⟩,le,⟨f1,gc,ps⟩,rd⟩:=lk;obtain⟨y,S,a0,V,d3,d4,d5,G,T,d6,fs⟩:=hs (loc:=some (g,d+i*t.size)) k0 f8 f1 (by rintro R r a;simp only[bH,e9] at a;obtain⟨rfl,rfl⟩:=a;exact⟨f5,cs g ab⟩) (λb k=>cs b (by rw[fT];simp[k])) H;refine⟨y,S,a0,g::(d0.flatten++(V++i8.flatten)),⟨g,d,_,fn,ge,rfl,lb,kg,f7,d3⟩,d4,d5,?_,?_,?_,λc _ _ _ _ _ a=>by cases c with|nil=>cases a|cons I c=>cases I<;>cases a⟩
   ·rw[fT];simp only[oE,iE];rw[qc] at G|-;intro b;have:=G b;simp only[p8,List.count_cons] at this|-;omega
   ·intro m h a;right;rcases T m h a with⟨r,l,_⟩|l
    ·simp only[bH,e9] at l;rw[l.1];simp
    simp[l]
   intro s K D z W d1 a4 v A el d7 B;simp only[df] at B;obtain⟨on,gf,mo,B,rfl⟩:=B;obtain rfl:on=av:=(by rw[fz] at mo;exact(dp mo).symm);obtain⟨n,N,C,_,_,L,Z,ex,ce⟩:=d6 s K D z W gf a4 (by
     rintro b (a|a|⟨r,a⟩)
     ·exact v b (.inl a)
     ·exact v b (.inr (.inl (by simp[a])))
     simp only[bH,e9] at a;exact v b (.inr (.inl (by rw[<-a.1];simp)))) A
    (by
     intro ci t6;exact el ci ab) d7 B
   have bl:∀m h,y=some (m,h)->(m=g/\d+i*t.size<=h/\h+F.size<=d+i*t.size+t.size)\/m∈go:=by
    intro m h a;rcases T m h a with⟨r,l,O,is⟩|l
    ·simp only[bH,e9] at l;omega
    exact .inr (G.mem_iff.2 (by simp[l]))
   have ft:=v g (.inr (.inl ab));have gt:∀q b,f q b->K q b/\bB e s b:=λq b k=>⟨a4 q b k,(v b (.inl ⟨q,k⟩)).dV (λr a=>by
    rcases bl b r a with⟨rfl,_⟩|l
    ·exact cs b ab q k
    exact cs b (by rw[fT];simp[l]) q k)⟩
   have nn:∀(w:Nat) (io:t.den) (a3:cO),w≠i->an[w]?=some io->f9[w]?=some a3->∀d2:cI,d2.length=t.size->dt e g (d+w*t.size) d2->dt s g (d+w*t.size) d2/\∀b∈a3,bB e s b:=by
    intro w io a3 hi o ds d2 i3 hw;have t4:w<an.length:=(ec.1 o).1;have la:∀b∈a3,b∈d0.flatten\/b∈i8.flatten:=by
     intro b k;rw[fT] at ds;rcases bj w d0.length with a|a
     ·rw[k9 a] at ds;exact .inl (hE.2 ⟨a3,j0 ds,k⟩)
     rw[lO a] at ds;obtain⟨c,E⟩:∃c,w-d0.length=c+1:=⟨w-d0.length-1,U⟩;rw[E] at ds;simp only[nx] at ds;exact .inr (hE.2 ⟨a3,j0 ds,k⟩)
    refine⟨?_,?_⟩
    ·intro x ii f0;have i2:x<d2.length:=(ec.1 f0).1;rw[ft.1]
     ·exact hw x ii f0
     intro h a;rcases bl g h a with⟨_,l,O⟩|l
     ·rcases Nat.lt_or_gt_of_ne hi with t5|t2
      ·left;have:(w+1)*t.size<=i*t.size:=dG _ U;rw[e2,fG] at this;omega
      right;have:(i+1)*t.size<=w*t.size:=dG _ U;rw[e2,fG] at this;omega
     exact absurd l f5
    intro b k;refine(v b (.inr (.inl ?_))).dV ?_
    ·rcases la b k with a|a<;>simp[a]
    intro h a;rcases bl b h a with⟨rfl,_⟩|l
    ·rcases la b k with a|a
     ·exact os a
     exact pl a
    rcases la b k with a|a
    ·exact rd b a b (.inl l) rfl
    exact ps b l b a rfl
   refine⟨[.slice (some ⟨g,d,none⟩) an.length fn],g::(d0++N::i8).flatten,⟨some ⟨g,d,none⟩,fn,ab,.inr ⟨g,d,d0++N::i8,rfl,rfl,?_,by simpa using pm,ft.Fc i1,?_⟩⟩,ab,λ_ _=>rfl,?_,?_,⟨g,d,_,fn,n,rfl,lb,by rw[C.len],L g _ rfl,ex⟩,?_⟩
   ·rw[fT] at ne;simpa using ne
   ·intro w io a3 o H;by_cases hi:w=i
    ·subst hi;rw[jY lb] at o;obtain rfl:=dp o;rw[lO U,rs,Nat.sub_self] at H;simp only[iF,bH] at H;subst H;exact⟨n,by rw[C.len],L g _ rfl,C⟩
    rw[kr (λa=>hi a.symm)] at o;have ds:f9[w]?=some a3:=by
     rw[fT];rcases bj w d0.length with a|a
     ·rw[k9 a] at H|-;exact H
     rw[lO a] at H|-;obtain⟨c,E⟩:∃c,w-d0.length=c+1:=⟨w-d0.length-1,U⟩;rw[E] at H|-;simpa using H
    obtain⟨d2,i3,hw,lt⟩:=lo w io a3 o ds;obtain⟨l2,mc⟩:=nn w io a3 hi o ds d2 i3 hw;exact⟨d2,i3,l2,lt.mono gt mc⟩
   ·intro R r a;have hc:=(X R r a).1;refine((co R r a).1).dV ((v R (.inr (.inr ⟨r,a⟩))).dV ?_);intro h f4;rcases bl R h f4 with⟨rfl,_⟩|l
    ·exact hc ab
    exact hc (by rw[fT];simp[l])
   ·rw[qc] at Z|-;intro b;have:=Z b;simp only[oE,iE,p8,List.count_cons] at this|-;omega
   intro c Q P M o E;cases c with
   |nil=>exact E
   |cons I c=>
    cases I<;>simp only[eP] at o<;>first|(cases o;done)|skip
    rename_i x;obtain⟨R,r,t8,tt,jp,l,O,is,gs,i0⟩:=E;simp only[fd,Value.slice.injEq,bH,Addr.mk.injEq,and_true] at l;obtain⟨⟨rfl,rfl⟩,rfl,rfl⟩:=l;by_cases nd:x=i
    ·subst nd;obtain rfl:=gs.eq f7 U;exact⟨g,d,_,fn,n,rfl,O,C.len,L g _ rfl,ce c Q P M o i0⟩
    have of:an[x]?=some an[x]:=bA O;have mt:f9[x]?=some (f9[x]'(by omega)):=bA _
    obtain⟨d2,i3,hw,lt⟩:=lo x _ _ of mt;obtain rfl:=gs.eq hw U;obtain⟨l2,mc⟩:=nn x _ _ nd of mt jp is gs;exact⟨g,d,_,fn,jp,rfl,O,is,l2,aJ.dV lt mc i0⟩
  case optr.deref t=>
   obtain⟨g,d,go,ge,rfl,rfl,kg,f7,i1,k0⟩:=em;simp only[h7] at d9;obtain⟨t1,rg⟩:=d9;have f8:mG e (some (g,d)) ge t.size:=(by rintro R r a;grind);obtain⟨y,S,a0,V,d3,d4,d5,G,T,d6,fs⟩:=hs (loc:=some (g,d)) k0 f8 rg (by grind) (λb k=>cs b (by grind)) H;refine⟨y,S,a0,g::V,⟨g,d,ge,rfl,kg,f7,d3⟩,d4,d5,?_,?_,?_,?_⟩
   rotate_left 3
   ·intro c ap z ad dl f2 a f1 d8 bs A b k;cases c with
    |nil=>cases a
    |cons I c=>
     cases I<;>first|(cases a;done)|skip
     simp only[aJ] at bs;obtain⟨R,r,ty,ai,t0,op,bs⟩:=bs;simp only[fd,Value.pointer.injEq,bH,Addr.mk.injEq,and_true] at ai;obtain⟨rfl,rfl⟩:=ai;obtain rfl:=op.eq f7 U;obtain⟨aq,J⟩:=fs c ap z ad dl f2 a f1 d8 bs A b k;exact⟨by simp[aq],J⟩
   ·rw[qc] at G|-;intro b;have:=G b;simp only[p8,List.count_cons] at this|-;omega
   ·intro m h a;right;rcases T m h a with⟨r,l,_⟩|l
    ·simp only[bH,e9] at l;rw[l.1];simp
    simp[l]
   intro s K D z W d1 a4 v A el d7 B;simp only[df] at B;obtain⟨n,N,C,_,_,L,Z,ex,ce⟩:=d6 s K D z W d1 a4 (by
     rintro b (a|a|⟨r,a⟩)
     ·exact v b (.inl a)
     ·exact v b (.inr (.inl (by simp[a])))
     simp only[bH,e9] at a;exact v b (.inr (.inl (by rw[<-a.1];simp)))) A
    (λci _=>el ci ab) d7 B
   have ft:=v g (.inr (.inl ab));refine⟨[.pointer (some ⟨g,d,none⟩)],g::N,⟨g,d,N,n,rfl,rfl,C.len,L g d rfl,ft.Fc i1,C⟩,ab,λ_ _=>rfl,?_,?_,⟨g,d,n,rfl,C.len,L g d rfl,ex⟩,?_⟩
   ·intro R r a;have hc:=(X R r a).1;refine((co R r a).1).dV ((v R (.inr (.inr ⟨r,a⟩))).dV ?_);intro h f4;rcases T R h f4 with⟨ol,l,_⟩|l
    ·simp only[bH,e9] at l;exact hc (by rw[l.1];simp)
    exact hc (eJ _ (G.mem_iff.2 (by simp[l])))
   ·rw[qc] at Z|-;intro b;have:=Z b;simp only[p8,List.count_cons] at this|-;omega
   intro c Q P M o E;cases c with
   |nil=>exact E
   |cons I c=>
    cases I<;>simp only[eP] at o<;>first|(cases o;done)|skip
    obtain⟨R,r,jp,l,is,gs,i0⟩:=E;simp only[fd,Value.pointer.injEq,bH,Addr.mk.injEq,and_true] at l;obtain⟨rfl,rfl⟩:=l;obtain rfl:=gs.eq f7 U;exact⟨g,d,n,rfl,C.len,L g d rfl,ce c Q P M o i0⟩
  case st.unst t=>
   obtain⟨y,S,a0,V,d3,d4,d5,G,T,d6,fs⟩:=hs (loc:=loc) (τ:=t) em co d9 X cs H;refine⟨y,S,a0,V,d3,d4,d5,G,T,?_,?_⟩
   rotate_left 1
   ·intro c ap z ad dl f2 a f1 d8 bs A b k;cases c with
    |nil=>cases a
    |cons I c=>
     cases I<;>first|(cases a;done)|skip
     exact fs c ap z ad dl f2 a f1 d8 bs A b k
   intro s K D z W d1 a4 v A el d7 B;obtain⟨n,N,C,t7,hv,L,Z,ex,ce⟩:=d6 s K D z W d1 a4 v A (λci _=>el ci ab) d7 B;refine⟨n,N,C,ab,hv,L,Z,ex,?_⟩;intro c Q P M o E;cases c with
   |nil=>
    obtain⟨rfl,rfl,rfl⟩:=aJ.kU.1 E;obtain⟨_,_,av⟩:=aJ.kU.1 (ce [] t loc u (by simpa[eP,mb] using o) (aJ.kU.2 ⟨rfl,rfl,rfl⟩));exact aJ.kU.2 ⟨rfl,rfl,av⟩
   |cons I c=>
    cases I<;>simp only[eP] at o<;>first|(cases o;done)|skip
    exact ce c Q P M o E
  case pr.fst j cv=>
   obtain⟨f3,f2,rfl,l,O⟩:=em;have lp:=l.len;have ad:=O.len;simp only[eD,kt] at lp ad;have f8:mG e loc (u.take j.size) j.size:=λg d a=>⟨(co g d a).1.take,λx aq J=>(co g d a).2 x aq (by show x<d+(j.size+cv.size);omega)⟩;simp only[hu] at d9;obtain⟨le,f1,gc⟩:=d9;obtain⟨y,S,a0,V,d3,d4,d5,G,T,d6,fs⟩:=hs (loc:=loc) l f8 le (λg d a=>⟨λc=>(X g d a).1 (by simp[c]),(X g d a).2⟩) (λb k=>cs b (by grind)) H;refine⟨y,S,a0,V++f2,d3,d4,d5,?_,?_,?_,?_⟩
   rotate_left 3
   ·intro c ap z ad dl kd a hr d8 bs A b k;cases c with
    |nil=>cases a
    |cons I c=>
     cases I<;>first|(cases a;done)|skip
     ·obtain⟨aq,J⟩:=fs c ap z ad dl kd a hr d8 bs A b k;exact⟨by simp[aq],J⟩
     obtain⟨a3,C,L⟩:=aG.sub (p:=c) O d8 bs;have f6:b∈f2:=L b (by rw[<-aG.uniq hr A C];exact k);refine⟨by simp[f6],λm h fz av=>?_⟩;subst av;rcases T b h fz with⟨r,ai,_⟩|ai
     ·exact(X b r ai).1 (by simp[f6])
     exact gc b (G.mem_iff.2 (by simp[ai])) b f6 rfl
   ·rw[qc] at G|-;intro b;have:=G b;simp only[p8] at this|-;omega
   ·intro m h a;rcases T m h a with⟨r,aq,J,ib⟩|aq
    ·exact .inl ⟨r,aq,J,by show h+F.size<=r+(j.size+cv.size);omega⟩
    exact .inr (by simp[aq])
   intro s K D z W d1 a4 v A el d7 B;simp only[df] at B;obtain⟨gf,B,rfl⟩:=B;obtain⟨n,N,C,_,hv,L,Z,ex,ce⟩:=d6 s K D z W gf a4 (by
     rintro b (a|a|a)
     ·exact v b (.inl a)
     ·exact v b (.inr (.inl (by simp[a])))
     exact v b (.inr (.inr a))) A (λci _=>el ci ab) d7 B
   have bl:∀m h,y=some (m,h)->(∃d,loc=some (m,d)/\d<=h/\h+F.size<=d+j.size)\/m∈f3:=λm h a=>(T m h a).imp id (λc=>G.mem_iff.2 (by simp[c]));have gt:∀q b,f q b->K q b/\bB e s b:=λq b k=>⟨a4 q b k,(v b (.inl ⟨q,k⟩)).dV (λr a=>by
    rcases bl b r a with⟨d,c,_⟩|c
    ·exact(X b d c).2 q k
    exact cs b (by simp[c]) q k)⟩
   have n5:∀b∈f2,bB e s b:=λb k=>(v b (.inr (.inl (by simp[k])))).dV (λh a=>by
    rcases bl b h a with⟨d,c,_⟩|c
    ·exact(X b d c).1 (by simp[k])
    exact gc b c b k rfl)
   have ok:=C.len;refine⟨n++u.drop j.size,N++f2,⟨N,f2,rfl,?_,?_⟩,ab,?_,?_,?_,(by
    show aJ s j loc ((n++u.drop j.size).take j.size) Y F y D;rw[qd U,dC U];exact ex),?_⟩
   ·rw[qd U,dC U];exact C
   ·rw[p9 U,qa U,hb];exact O.mono gt n5
   ·intro aq J;rw[hv aq J,kv]
   ·intro g d a;refine(L g d a).append ?_;rw[ok];intro x ii f0;have ft:=v g (.inr (.inr ⟨d,a⟩));have i2:x<(u.drop j.size).length:=(ec.1 f0).1;simp only[kt] at i2;rw[ft.1]
    ·exact((co g d a).1.drop) x ii f0
    intro h f4;rcases bl g h f4 with⟨ol,aq,J,ib⟩|c
    ·rw[a] at aq;simp only[bH,e9,true_and] at aq;omega
    exact absurd (by simp[c]) (X g d a).1
   ·rw[qc] at Z|-;intro b;have:=Z b;simp only[p8] at this|-;omega
   intro c Q P M o E;have ai:(n++u.drop j.size).take j.size=n:=(by rw[qd U,dC U]);have gl:(n++u.drop j.size).drop j.size=u.drop j.size:=(by rw[p9 U,qa U,hb]);cases c with
   |nil=>
    obtain⟨rfl,rfl,rfl⟩:=aJ.kU.1 E;obtain⟨_,_,av⟩:=aJ.kU.1 (ce [] j loc (u.take j.size) (by simpa[eP,mb] using o) (aJ.kU.2 ⟨rfl,rfl,rfl⟩));exact aJ.kU.2 ⟨rfl,rfl,by rw[av,kv]⟩
   |cons I c=>
    cases I<;>simp only[eP] at o<;>first|(cases o;done)|skip
    ·show aJ s j loc ((n++u.drop j.size).take j.size) c Q P M;rw[ai];exact ce c Q P M o E
    show aJ s cv (loc.map λc=>(c.1,c.2+j.size)) ((n++u.drop j.size).drop j.size) c Q P M;rw[gl];exact aJ.dV O n5 E
  case pr.snd j cv=>
   obtain⟨f3,f2,rfl,l,O⟩:=em;have lp:=l.len;have ad:=O.len;simp only[eD,kt] at lp ad;have f8:mG e (loc.map λc=>(c.1,c.2+j.size)) (u.drop j.size) cv.size:=by
    intro g d a;cases loc with
    |none=>grind
    |some c=>
     obtain⟨to,am⟩:=c;simp only[hl,bH,e9] at a;obtain⟨rfl,rfl⟩:=a;exact⟨(co _ _ rfl).1.drop,λx aq J=>(co _ _ rfl).2 x U (by show x<am+(j.size+cv.size);omega)⟩
   simp only[hu] at d9;obtain⟨le,f1,gc⟩:=d9;have f5:∀g d,(loc.map λc=>(c.1,c.2+j.size))=some (g,d)->∃am,loc=some (g,am)/\d=am+j.size:=by
    intro g d a;cases loc with
    |none=>grind
    |some c=>
     grind
   obtain⟨y,S,a0,V,d3,d4,d5,G,T,d6,fs⟩:=hs (loc:=loc.map λc=>(c.1,c.2+j.size)) O f8 f1 (λg d a=>by grind) (λb k=>cs b (by grind)) H;refine⟨y,S,a0,V++f3,d3,d4,d5,?_,?_,?_,?_⟩
   rotate_left 3
   ·intro c ap z ad dl kd a hr d8 bs A b k;cases c with
    |nil=>cases a
    |cons I c=>
     cases I<;>first|(cases a;done)|skip
     ·obtain⟨a3,C,L⟩:=aG.sub (p:=c) l d8 bs;have f6:b∈f3:=L b (by rw[<-aG.uniq hr A C];exact k);refine⟨by simp[f6],λm h fz av=>?_⟩;subst av;rcases T b h fz with⟨r,ai,_⟩|ai
      ·obtain⟨am,gl,_⟩:=f5 _ _ ai;exact(X b am gl).1 (by simp[f6])
      exact gc b f6 b (G.mem_iff.2 (by simp[ai])) rfl
     obtain⟨aq,J⟩:=fs c ap z ad dl kd a hr d8 bs A b k;exact⟨by simp[aq],J⟩
   ·rw[qc] at G|-;intro b;have:=G b;simp only[p8] at this|-;omega
   ·intro m h a;rcases T m h a with⟨r,aq,J,ib⟩|aq
    ·obtain⟨am,ic,rfl⟩:=f5 _ _ aq;exact .inl ⟨am,ic,U,by show h+F.size<=am+(j.size+cv.size);omega⟩
    exact .inr (by simp[aq])
   intro s K D z W d1 a4 v A el d7 B;simp only[df] at B;obtain⟨gf,B,rfl⟩:=B;obtain⟨n,N,C,_,hv,L,Z,ex,ce⟩:=d6 s K D z W gf a4 (by
     rintro b (a|a|⟨d,a⟩)
     ·exact v b (.inl a)
     ·exact v b (.inr (.inl (by simp[a])))
     obtain⟨am,ic,rfl⟩:=f5 _ _ a;exact v b (.inr (.inr ⟨am,ic⟩))) A (λci _=>el ci ab) d7 B
   have bl:∀m h,y=some (m,h)->(∃d,loc=some (m,d)/\d+j.size<=h/\h+F.size<=d+j.size+cv.size)\/m∈f2:=λm h a=>by
    rcases T m h a with⟨r,aq,J,ib⟩|c
    ·obtain⟨am,ic,rfl⟩:=f5 _ _ aq;exact .inl ⟨am,ic,J,ib⟩
    exact .inr (G.mem_iff.2 (by simp[c]))
   have gt:∀q b,f q b->K q b/\bB e s b:=λq b k=>⟨a4 q b k,(v b (.inl ⟨q,k⟩)).dV (λr a=>by
    rcases bl b r a with⟨d,c,_⟩|c
    ·exact(X b d c).2 q k
    exact cs b (by simp[c]) q k)⟩
   have no:∀b∈f3,bB e s b:=λb k=>(v b (.inr (.inl (by simp[k])))).dV (λh a=>by
    rcases bl b h a with⟨d,c,_⟩|c
    ·exact(X b d c).1 (by simp[k])
    exact gc b k b c rfl)
   have ok:=C.len;refine⟨u.take j.size++n,f3++N,⟨f3,N,rfl,?_,?_⟩,ab,?_,?_,?_,(by
    show aJ s cv (loc.map λc=>(c.1,c.2+j.size)) ((u.take j.size++n).drop j.size) Y F y D;rw[p9 (by simp;omega),qa (by simp;omega),hb];exact ex),?_⟩
   ·rw[qd (by simp;omega),List.take_take,Nat.min_self];exact l.mono gt no
   ·rw[p9 (by simp;omega),qa (by simp;omega),hb];exact C
   ·intro aq J;rw[hv (by rw[aq];rfl) J,kv]
   ·intro g d a;have ft:=v g (.inr (.inr ⟨d,a⟩));have or:dt s g d (u.take j.size):=by
     intro x ii f0;have i2:x<(u.take j.size).length:=(ec.1 f0).1;simp only[eD] at i2;rw[ft.1]
     ·exact((co g d a).1.take) x ii f0
     intro h f4;rcases bl g h f4 with⟨ol,aq,J,ib⟩|c
     ·rw[a] at aq;simp only[bH,e9,true_and] at aq;omega
     exact absurd (by simp[c]) (X g d a).1
    refine or.append ?_;have:=L g (d+j.size) (by rw[a];rfl);rwa[eD,fW U]
   ·rw[qc] at Z|-;intro b;have:=Z b;simp only[p8] at this|-;omega
   intro c Q P M o E;have ai:(u.take j.size++n).take j.size=u.take j.size:=(by rw[qd (by simp;omega),List.take_take,Nat.min_self]);have gl:(u.take j.size++n).drop j.size=n:=(by rw[p9 (by simp;omega),qa (by simp;omega),hb]);cases c with
   |nil=>
    obtain⟨rfl,rfl,rfl⟩:=aJ.kU.1 E;obtain⟨_,_,av⟩:=aJ.kU.1 (ce [] cv (loc.map λc=>(c.1,c.2+j.size)) (u.drop j.size) (by simpa[eP,mb] using o) (aJ.kU.2 ⟨rfl,rfl,rfl⟩));exact aJ.kU.2 ⟨rfl,rfl,by rw[av,kv]⟩
   |cons I c=>
    cases I<;>simp only[eP] at o<;>first|(cases o;done)|skip
    ·show aJ s j loc ((u.take j.size++n).take j.size) c Q P M;rw[ai];exact aJ.dV l no E
    show aJ s cv (loc.map λc=>(c.1,c.2+j.size)) ((u.take j.size++n).drop j.size) c Q P M;rw[gl];exact ce c Q P M o E
theorem yq (h:List aO) {loc:Loc} {u:d.den} {τ':af} {y:τ'.den} (D:aG f e d i u n) (E:mG e loc i d.size) (F:n.Nodup) (G:∀a b,loc=some (a,b)->a∉n/\∀g,¬f g a) (H:∀a∈n,∀g,¬f g a) (I:bN d u h τ' y):∃c k r o,aJ e d loc i h τ' c k/\aG f e τ' k y r/\mG e c k τ'.size/\n.Perm (r++o)/\(∀q s,c=some (q,s)->(∃b,loc=some (q,b)/\b<=s/\s+τ'.size<=b+d.size)\/q∈o)/\(∀(
   j:World) (p:bO->Nat->Prop) (l:cI) (B:τ'.den) (w:cO) (A:d.den),
   (∀g a,f g a->p g a)->(∀a,(∃g,f g a)\/a∈o\/(∃b,loc=some (a,b))->oB e j c τ'.size a)->
   aG p j τ' l B w->(c=none->h≠[]->l=k)->(∀a b,c=some (a,b)->dt j a b l)->df d u h τ' B A->
   ∃m x,aG p j d m A x/\(h=[]->m=l)/\(loc=none->(c≠none\/l=k)->m=i)/\(∀a b,loc=some (a,b)->dt j a b m)/\x.Perm (w++o)/\aJ j d loc m h τ' c l/\∀(t:List aO) (C:af) (z:Loc) (v:cI),eP h t=true->aJ e d loc i t C z v->aJ j d loc m t C z v):=by
 obtain⟨c,k,r,o,J,K,L,M,N,O,_⟩:=u3 h D E F G H I;grind
def aY (a c:Nat->Prop):bO->Nat->Prop
 |.bn=>a
 |.dO=>λb=>a b\/c b
theorem kN (a:aY F l Q c):F c\/l c:=by cases Q;exact .inl a;exact a
inductive ag where
 |dead
 |val (τ:af) (x:τ.den)
 |ref (id:Nat) (p:List aO)
 |addr (id:Nat) (p:List aO)
 |view (id:Nat) (p:List aO) (lo hi:Nat)
 |app (id:Nat) (p:List aO) (τ:af) (wa:List τ.den) (own:cO)
 |bD (v:Value)
 |dg (l:List ag)
 |agg (l:List ag)
 |bZ (f:Nat) (l:List ag)
 |ik (id:Nat) (p:List aO) (k:Int)
variable{L:ag}{M:List (Nat×ag)}
abbrev az:=(a:af)×a.den
variable{x:List (Nat×az)}{C:az}
structure aB where
 g:List (Nat×ag)
 h:List (Nat×az)
variable{z:aB}
def ak {a:Type}:List (Nat×a)->Nat->Option a
 |[],_=>none
 |(k,v)::r,n=>bif Nat.beq k n then some v else ak r n
def bG (b:Nat) (e:y) (d:List (Nat×y)) (a:Nat):ak ((b,e)::d) a=if b=a then some e else ak d a:=by
 show(bif Nat.beq b a then some e else ak d a)=_;by_cases c:b=a
 ·rw[al c,c];simp
 rw[ah c];have:Nat.beq b a=false:=by
  cases f:Nat.beq b a
  ·rfl
  exact absurd (dW f) c
 rw[this];rfl
def gt (a:List (Nat×ag)) (b:Nat):ag:=match ak a b with|some c=>c|none=>.dead
structure c8 where
 I0:Nat->Prop
 B:Nat->Prop
 F0:Nat->Prop
 w0:World
 n:Nat
 pin:cO
 vs:Nat->Value
variable{I:c8}
def c8.ok (a:c8) (d:Nat):Prop:=d<a.n/\d∉a.pin
inductive bk (M:bO->Nat->Prop) (w:World) (h:List (Nat×az)) (rt:Nat->cI) (fp:Nat->cO):ag->Value->Prop
 |dead (v:Value):bk M w h rt fp .dead v
 |bD (v:Value):bk M w h rt fp (.bD v) v
 |val {τ:af} {x:τ.den} {cs:cI} (r:aG M w τ cs x []):bk M w h rt fp (.val τ x) (bp τ cs)
 |ref {id:Nat} {p:List aO} {t:az} {τ':af} {loc:Loc} {cs:cI} (qS:ak h id=some t) (yz:aJ w t.1 none (rt id) p τ' loc cs):bk M w h rt fp (.ref id p) (bp τ' cs)
 |addr {id:Nat} {p:List aO} {t:az} {τ':af} {b o:Nat} {cs:cI} (qS:ak h id=some t) (yz:aJ w t.1 none (rt id) p τ' (some (b,o)) cs):bk M w h rt fp (.addr id p) (.pointer (some ⟨b,o,none⟩))
 |view {id:Nat} {p:List aO} {lo hi:Nat} {t:az} {τ':af} {loc:Loc} {b o len cap:Nat} (qS:ak h id=some t) (yz:aJ w t.1 none (rt id) p (.osl τ') loc [.slice (some ⟨b,o,none⟩) len cap]) (M7:lo<=hi) (M8:hi<=len) (T4:len<=cap):bk M w h rt fp (.view id p lo hi) (.slice (some ⟨b,if cap=lo then o else o+lo*τ'.size,none⟩) (hi-lo) (cap-lo))
 |jm (id:Nat) (p:List aO):bk M w h rt fp (.view id p 0 0) (.slice none 0 0)
 |app {id:Nat} {p:List aO} {τ:af} {wa:List τ.den} {own:cO} {t:az} {loc:Loc} {tU:cI} {xs:List τ.den} {f1 f2:cO} {v:Value} (qS:ak h id=some t) (T9:τ.hS=true) (yz:aJ w t.1 none (rt id) p (.osl τ) loc tU) (T7:bN t.1 t.2 p (.osl τ) xs) (M7:aG M w (.osl τ) tU xs f1) (T6:∀b∈f1,b∈fp id) (M8:aG M w (.osl τ) [v] (xs++wa) f2) (Ub:∀i∈own,i≠id/\∃u,ak h i=some u) (Uc:∀b∈f2,b∈f1\/∃i∈own,b∈fp i) (Ua:f2.Nodup):bk M w h rt fp (.app id p τ wa own) v
 |dg {l:List ag} {vs:cG} (Fu:l.length=vs.size) (yy:∀(i:Nat) (a:ag) (v:Value),l[i]?=some a->vs[i]?=some v->bk M w h rt fp a v):bk M w h rt fp (.dg l) (.tuple vs)
 |agg {l:List ag} {vs:cI} (Fu:l.length=vs.length) (yy:∀(i:Nat) (a:ag) (v:Value),l[i]?=some a->vs[i]?=some v->bk M w h rt fp a v):bk M w h rt fp (.agg l) (.agg (vs.map λv=>v.cells.toList).flatten.toArray)
 |ik {id:Nat} {p:List aO} {k:Int} {t:az} {τ':af} {loc:Loc} {b c i:Nat} {c7:Array MapEntry} {e:MapEntry} (qS:ak h id=some t) (yz:aJ w t.1 none (rt id) p (.mp τ') loc [.map (some b)]) (T5:b∈fp id) (Fv:gx w b=some (c7,c)) (hi:c7[i]?=some e) (T8:e.key=.int .i64 k):bk M w h rt fp (.ik id p k) (.int .i64 (e.born:Int))
 |bZ {f:Nat} {l:List ag} {vs:cG} (Fu:l.length=vs.size) (yy:∀(i:Nat) (a:ag) (v:Value),l[i]?=some a->vs[i]?=some v->bk M w h rt fp a v):bk M w h rt fp (.bZ f l) (.func (.func f) #[] vs)
structure bi (C:c8) (st:aB) (pS:cG) (w:World) (I:Nat->Prop) (rt:Nat->cI) (fp:Nat->cO):Prop where
 n:pS.size=C.n
 i0:∀b,C.I0 b->I b
 i1:∀b,I b->C.I0 b\/C.w0.heap.size<=b\/C.F0 b
 ib:∀b,I b\/C.B b->b<w.heap.size
 tree:∀id t,ak st.h id=some t->aG (aY I C.B) w t.1 (rt id) t.2 (fp id)/\(fp id).Nodup/\∀b∈fp id,¬I b/\¬C.B b/\b<w.heap.size/\(C.w0.heap.size<=b\/C.F0 b)
 dis:∀i j t u,ak st.h i=some t->ak st.h j=some u->i≠j->∀b∈fp i,b∉fp j
 tmp:∀k,bk (aY I C.B) w st.h rt fp (gt st.g k) (pS.getD k undef)
 frame:∀b,b<C.w0.heap.size->¬C.F0 b->w.heap[b]?=C.w0.heap[b]?
 evo:∀b,b<C.w0.heap.size->h0 C.w0 w b
 size:C.w0.heap.size<=w.heap.size
 os:w.os=C.w0.os
 tape:w.tape=C.w0.tape
 output:w.output=C.w0.output
 pin:∀k∈C.pin,pS.getD k undef=C.vs k
def ez (a:c8) (e:aB) (f:cG) (g:World):Prop:=∃b d c,bi a e f g b d c
structure fu (w w':World):Prop where
 os:w'.os=w.os
 tape:w'.tape=w.tape
 output:w'.output=w.output
 size:w.heap.size<=w'.heap.size
 heap:∀b,b<w.heap.size->w'.heap[b]?=w.heap[b]?
def fu.refl (a:World):fu a a:=⟨rfl,rfl,rfl,a2 _,λ_ _=>rfl⟩
def fu.trans {c d e:World} (a:fu c d) (b:fu d e):fu c e:=
 ⟨b.os.trans a.os,b.tape.trans a.tape,b.output.trans a.output,bt a.size b.size,λg f=>(b.heap g (fF f a.size)).trans (a.heap g f)⟩
def fu.drew {b c:World} (a:fu b c):fu b c.drew:=⟨a.os,a.tape,a.output,a.size,a.heap⟩
def fu.alloc (a:World) (b:Obj):fu a (a.alloc b):=⟨rfl,rfl,rfl,ab,λc d=>by
 show(a.heap.push b)[c]?=_;rw[Array.getElem?_push,ah U]⟩
def bk.mono {w E:bO->Nat->Prop} {t v:World} {x G:List (Nat×az)} {D K:Nat->cI} {u F:Nat->cO} (y:∀I b,w I b->E I b/\bB t v b) (f:∀id o,ak x id=some o->aG w t o.1 (D id) o.2 (u id)/\∀b∈u id,bB t v b) {l:ag} {e:Value} (M:bk w t x D u l e) (n:∀id o,ak x id=some o->ak G id=some o/\K id=D id/\F id=u id):bk E v G K F l e:=by
 induction M with
 |dead e=>exact .dead e
 |bD e=>exact .bD e
 |val V=>exact .val (V.mono y ab)
 |ref a i=>
  obtain⟨j,k,_⟩:=n _ _ a;exact .ref j (by rw[k];exact i.dV (f _ _ a).1 (f _ _ a).2)
 |addr a i=>
  obtain⟨j,k,_⟩:=n _ _ a;exact .addr j (by rw[k];exact i.dV (f _ _ a).1 (f _ _ a).2)
 |jm id J=>exact .jm id J
 |view a i g h L=>
  obtain⟨j,k,_⟩:=n _ _ a;exact .view j (by rw[k];exact i.dV (f _ _ a).1 (f _ _ a).2) g h L
 |@app id J τ am Z o Y W ad X f2 e a R i O g z h A H S=>
  obtain⟨j,k,C⟩:=n _ _ a;obtain⟨T,B⟩:=f _ _ a;have N:∀b∈f2,bB t v b:=λb c=>by
   rcases H b c with c|⟨d,m,c⟩
   ·exact B b (z b c)
   obtain⟨_,p,r⟩:=A d m;exact(f d p r).2 b c
  refine .app j R (by rw[k];exact i.dV T B) O (g.mono y (λb c=>B b (z b c))) (by rw[C];exact z) (h.mono y N) ?_ ?_ S
  ·intro d m;obtain⟨U,p,r⟩:=A d m;exact⟨U,p,(n d p r).1⟩
  intro b c;rcases H b c with c|⟨d,m,c⟩
  ·exact .inl c
  obtain⟨_,p,r⟩:=A d m;exact .inr ⟨d,m,by rw[(n d p r).2.2];exact c⟩
 |ik a i c Q m P=>
  obtain⟨j,k,C⟩:=n _ _ a;exact .ik j (by rw[k];exact i.dV (f _ _ a).1 (f _ _ a).2) (by rw[C];exact c) (by rw[((f _ _ a).2 _ c).2];exact Q) m P
 |dg q _ s=>exact .dg q (λd l e g h=>s d l e g h)
 |agg q _ s=>exact .agg q (λd l e g h=>s d l e g h)
 |bZ q _ s=>exact .bZ q (λd l e g h=>s d l e g h)
def aI (c:List (Nat×ag)):Operand->ag
 |.tmp g=>gt c g
 |.const (.int d e)=>.val (.int d) e
 |.const (.bool a)=>.val .bool a
 |.const (.string f)=>.val .str f
 |.const h=>.bD h
 |.func b=>.bZ b []
 |.global _=>.dead
def bk.int {c:bO->Nat->Prop} {g:World} {e:List (Nat×az)} {f:Nat->cI} {d:Nat->cO} (a:IntKind) (b:Int):bk c g e f d (.val (.int a) b) (.int a b):=
 .val (τ:=.int a) (cs:=[.int a b]) ⟨rfl,rfl⟩
def bk.bool {b:bO->Nat->Prop} {f:World} {d:List (Nat×az)} {e:Nat->cI} {c:Nat->cO} (a:Bool):bk b f d e c (.val .bool a) (.bool a):=
 .val (τ:=.bool) (cs:=[.bool a]) ⟨rfl,rfl⟩
def bk.str {b:bO->Nat->Prop} {f:World} {d:List (Nat×az)} {e:Nat->cI} {c:Nat->cO} (a:ByteArray):bk b f d e c (.val .str a) (.string a):=
 .val (τ:=.str) (cs:=[.string a]) ⟨rfl,rfl⟩
def bi.aI {e:c8} {c:aB} {a:Act} {l:World} {f:Nat->Prop} {j:Nat->cI} {i:Nat->cO} (m:bi e c a.tmps l f j i) (d:Operand):bk (aY f e.B) l c.h j i (aI c.g d) (a.eval d):=by
 cases d with
 |tmp o=>exact m.tmp o
 |const p=>
  cases p<;>simp only[h1.aI,Act.eval]
  case int k n=>exact .int k n
  case bool b=>exact .bool b
  case string s=>exact .str s
  all_goals exact .bD _
 |func q=>exact .bZ (vs:=#[]) ab ab
 |global r=>exact .dead _
theorem hQ {d:Type}:∀(c b:List (Nat×d)) (a:Nat),ak (c++b) a=(ak c a).or (ak b a)
 |[],b,a=>by simp[ak]
 |(k,v)::c,b,a=>by rw[h3,bG,bG,hQ c b a];split<;>simp
theorem gw (b:Nat) (c:ag) (d:List (Nat×ag)) (a:Nat):gt ((b,c)::d) a=if b=a then c else gt d a:=by unfold gt;rw[bG];by_cases e:b=a<;>simp[e]
def bi.put {f:cG} (a:bi I z f e l p q) (i:I.ok c) {av:ag} {v:Value} (m:bk (aY l I.B) e z.h p q av v):bi I ⟨(c,av)::z.g,z.h⟩ (f.setIfInBounds c v) e l p q where
 n:=by simpa using a.n
 i0:=a.i0
 i1:=a.i1
 ib:=a.ib
 tree:=a.tree
 dis:=a.dis
 tmp:=λb=>by
  show bk _ _ _ _ _ (gt ((c,av)::z.g) b) _;unfold gt;rw[bG];have k:c<f.size:=(by rw[a.n];exact i.1);by_cases d:c=b
  ·subst d;rw[al rfl];have:(f.setIfInBounds c v).getD c undef=v:=(by simp[Array.getD,k]);rw[this];exact m
  rw[ah d];have:(f.setIfInBounds c v).getD b undef=f.getD b undef:=(by simp only[wc,zF d]);rw[this];exact a.tmp b
 frame:=a.frame
 evo:=a.evo
 size:=a.size
 os:=a.os
 tape:=a.tape
 output:=a.output
 pin:=λb d=>by have:c≠b:=λj=>i.2 (j▸d);rw[<-a.pin b d];simp only[wc,zF this]
structure rO (C:c8) (st:aB) (w w':World) (I':Nat->Prop) (new:List (Nat×az)) (rtn:Nat->cI) (fpn:Nat->cO):Prop where
 tree:∀id t,ak new id=some t->ak st.h id=none/\aG (aY I' C.B) w' t.1 (rtn id) t.2 (fpn id)/\(fpn id).Nodup/\∀b∈fpn id,w.heap.size<=b/\b<w'.heap.size/\¬I' b
 dis:∀i j t u,ak new i=some t->ak new j=some u->i≠j->∀b∈fpn i,b∉fpn j
def rO.nil:rO I z e k l [] p q:=
 ⟨(λ_ _ a=>by cases a),(λ_ _ _ _ a=>by cases a)⟩
def rO.one {C:c8} {st:aB} {e w':World} {I':Nat->Prop} {id:Nat} {t:az} {cs:cI} {f:cO} (m:ak st.h id=none) (n:aG (aY I' C.B) w' t.1 cs t.2 f) (k:f.Nodup) (j:∀b∈f,e.heap.size<=b/\b<w'.heap.size/\¬I' b):rO C st e w' I' [(id,t)] (λ_=>cs) (λ_=>f) where
 tree:=λo p a=>by
  rw[bG] at a;split at a
  ·rename_i g;subst g;obtain rfl:=dp a;exact⟨m,n,k,j⟩
  cases a
 dis:=λo q r p c d l=>by
  rw[bG] at c d;split at c
  ·split at d
   ·rename_i ai i;exact absurd (ai.symm.trans i) l
   cases d
  cases c
def de (d:List (Nat×az)) {a:Type} (b c:Nat->a):Nat->a:=λid=>match ak d id with|some _=>b id|none=>c id
def bi.ext {P:cG} {rtn:Nat->cI} {fpn:Nat->cO} (d:bi I z P e F p q) (i:fu e k) (A:∀a,F a->l a) (C:∀a,l a->F a\/(e.heap.size<=a/\a<k.heap.size)) {new:List (Nat×az)} (t:rO I z e k l new rtn fpn):bi I ⟨z.g,new++z.h⟩ P k l (de new rtn p) (de new fpn q):=by
 have L:∀x a,aY F I.B x a->aY l I.B x a/\bB e k a:=λx a b=>by
  refine⟨?_,.of_heap (i.heap a (d.ib a (kN b)))⟩;cases x
  ·exact A a b
  exact b.imp (A a) id
 have U:∀id c,ak z.h id=some c->ak (new++z.h) id=some c/\de new rtn p id=p id/\de new fpn q id=q id:=λid c f=>by
  have:ak new id=none:=by
   cases m:ak new id with
   |none=>rfl
   |some o=>have:=(t.tree id o m).1;rw[f] at this;cases this
  refine⟨by rw[hQ,this,f];rfl,by simp[de,this],by simp[de,this]⟩
 have D:∀id c,ak (new++z.h) id=some c->(ak new id=some c/\de new rtn p id=rtn id/\de new fpn q id=fpn id)\/(ak z.h id=some c/\de new rtn p id=p id/\de new fpn q id=q id):=λid c f=>by
  rw[hQ] at f;cases m:ak new id with
  |none=>rw[m] at f;exact .inr ⟨by simpa using f,by simp[de,m],by simp[de,m]⟩
  |some o=>rw[m] at f;exact .inl ⟨by simpa using f,by simp[de,m],by simp[de,m]⟩
 have M:∀id c,ak z.h id=some c->∀a∈q id,bB e k a:=λid c f a b=>.of_heap (i.heap a ((d.tree id c f).2.2 a b).2.2.1);refine{n:=d.n,i0:=λa b=>A a (d.i0 a b),i1:=?_,ib:=?_,tree:=?_,dis:=?_,tmp:=?_,frame:=?_,evo:=λa b=>(d.evo a b).trans (.of_heap (i.heap a (fF b d.size))),size:=bt d.size i.size,os:=i.os.trans d.os,tape:=i.tape.trans d.tape,output:=i.output.trans d.output,pin:=d.pin}
 ·intro a b;rcases C a b with b|⟨b,_⟩
  ·exact d.i1 a b
  exact .inr (.inl (bt d.size b))
 ·intro a b;rcases b with b|b
  ·rcases C a b with b|⟨_,b⟩
   ·exact fF (d.ib a (.inl b)) i.size
   exact b
  exact fF (d.ib a (.inr b)) i.size
 ·intro id c f;rcases D id c f with⟨j,y,r⟩|⟨j,y,r⟩
  ·obtain⟨_,aq,E,G⟩:=t.tree id c j;rw[y,r];refine⟨aq,E,λa b=>?_⟩;obtain⟨H,J,K⟩:=G a b;exact⟨K,λQ=>by have:=d.ib a (.inr Q);omega,J,.inl (bt d.size H)⟩
  obtain⟨aq,E,G⟩:=d.tree id c j;rw[y,r];refine⟨aq.mono L (M id c j),E,λa b=>?_⟩;obtain⟨H,J,K,aP⟩:=G a b;exact⟨λs=>(C a s).elim H (λW=>by omega),J,fF K i.size,aP⟩
 ·intro u v c o S T N a b;rcases D u c S with⟨j,_,r⟩|⟨j,_,r⟩<;>rcases D v o T with⟨w,_,O⟩|⟨w,_,O⟩<;>rw[r] at b<;>rw[O]
  ·exact t.dis u v c o j w N a b
  ·intro s;have:=((t.tree u c j).2.2.2 a b).1;have:=((d.tree v o w).2.2 a s).2.2.1;omega
  ·intro s;have:=((t.tree v o w).2.2.2 a s).1;have:=((d.tree u c j).2.2 a b).2.2.1;omega
  exact d.dis u v c o j w N a b
 ·intro V;exact(d.tmp V).mono L (λid c f=>⟨(d.tree id c f).1,M id c f⟩) U
 intro a b R;rw[i.heap a (fF b d.size)];exact d.frame a b R
def bi.M5 (a:bi I z B e l p q) (b:fu e k):bi I z B k l p q:=by have:=a.ext (rtn:=p) (fpn:=q) b (λ_ a=>a) (λ_ a=>.inl a) (new:=[]) .nil;exact this
def l1:List (Nat×ag)->aB->Prop
 |[],_=>True
 |(k,a)::r,st=>gt st.g k=a/\l1 r st
def l3:List (Nat×az)->aB->Prop
 |[],_=>True
 |(k,t)::r,st=>ak st.h k=some t/\l3 r st
def l1.get (b:l1 M z):∀a,gt M a=.dead\/gt M a=gt z.g a:=by
 induction M with
 |nil=>exactλa=>.inl rfl
 |cons e M d=>
  obtain⟨h,f⟩:=e;intro a;rw[gw];split
  ·rename_i c;subst c;exact .inr b.1.symm
  exact d b.2 a
def l3.get (c:l3 x z):∀a b,ak x a=some b->ak z.h a=some b:=by
 induction x with
 |nil=>intro a b c;cases c
 |cons g x f=>
  obtain⟨j,i⟩:=g;intro a b d;rw[bG] at d;split at d
  ·rename_i e;subst e;rw[<-d];exact c.1
  exact f c.2 a b d
mutual
def ag.ids:ag->cO
 |.dead|.val _ _|.bD _=>[]
 |.ref id _|.addr id _|.view id _ _ _|.ik id _ _=>[id]
 |.app id _ _ _ b=>id::b
 |.dg a|.agg a|.bZ _ a=>ag.lu a
def ag.lu:List ag->cO
 |[]=>[]
 |a::b=>a.ids++ag.lu b
end
def ag.vl {l:List ag} {i:Nat} (a:l[i]?=some L) {id:Nat} (b:id∈L.ids):id∈ag.lu l:=by
 induction l generalizing i with
 |nil=>simp at a
 |cons e d c=>
  simp only[ag.lu,eI];cases i with
  |zero=>simp at a;subst a;exact .inl b
  |succ i=>simp at a;exact .inr (c a)
def bk.pE {F:bO->Nat->Prop} {H:List (Nat×az)} {M:Nat->cI} {G:Nat->cO} (z:∀J a,f J a->F J a/\bB e k a) (O:bk f e x p q L E) (h:∀id∈L.ids,∀y,ak x id=some y->ak H id=some y/\M id=p id/\G id=q id/\aG f e y.1 (p id) y.2 (q id)/\∀a∈q id,bB e k a):bk F k H M G L E:=by
 induction O with
 |dead E=>exact .dead E
 |bD E=>exact .bD E
 |val X=>exact .val (X.mono z ab)
 |ref l j=>
  obtain⟨m,n,_,r,o⟩:=h _ (by simp[ag.ids]) _ l;exact .ref m (by rw[n];exact j.dV r o)
 |addr l j=>
  obtain⟨m,n,_,r,o⟩:=h _ (by simp[ag.ids]) _ l;exact .addr m (by rw[n];exact j.dV r o)
 |jm id K=>exact .jm id K
 |view l j d i N=>
  obtain⟨m,n,_,r,o⟩:=h _ (by simp[ag.ids]) _ l;exact .view m (by rw[n];exact j.dV r o) d i N
 |@app id K av ap am y ad Y an Z f2 E l T j Q d A i B I U=>
  obtain⟨m,n,D,V,C⟩:=h _ (by simp[ag.ids]) _ l;have P:∀a∈f2,bB e k a:=λa b=>by
   rcases I a b with b|⟨c,g,b⟩
   ·exact C a (A a b)
   obtain⟨_,s,v⟩:=B c g;exact(h c (by simp[ag.ids,g]) s v).2.2.2.2 a b
  refine .app m T (by rw[n];exact j.dV V C) Q (d.mono z (λa b=>C a (A a b))) (by rw[D];exact A) (i.mono z P) ?_ ?_ U
  ·intro c g;obtain⟨W,s,v⟩:=B c g;exact⟨W,s,(h c (by simp[ag.ids,g]) s v).1⟩
  intro a b;rcases I a b with b|⟨c,g,b⟩
  ·exact .inl b
  obtain⟨_,s,v⟩:=B c g;exact .inr ⟨c,g,by rw[(h c (by simp[ag.ids,g]) s v).2.2.1];exact b⟩
 |ik l j b S g R=>
  obtain⟨m,n,D,r,o⟩:=h _ (by simp[ag.ids]) _ l;exact .ik m (by rw[n];exact j.dV r o) (by rw[D];exact b) (by rw[(o _ b).2];exact S) g R
 |dg u _ w=>exact .dg u (λc L E d i=>w c L E d i (λid t=>h id (ag.vl d t)))
 |agg u _ w=>exact .agg u (λc L E d i=>w c L E d i (λid t=>h id (ag.vl d t)))
 |bZ u _ w=>exact .bZ u (λc L E d i=>w c L E d i (λid t=>h id (ag.vl d t)))
def bi.tZ {o:aB} (a:bi I o B e l p q) (v:l1 z.g o) (d:l3 z.h o) (w:∀c,∀id∈(gt z.g c).ids,(ak z.h id).isSome=true):bi I z B e l p q where
 n:=a.n
 i0:=a.i0
 i1:=a.i1
 ib:=a.ib
 tree:=λid b f=>a.tree id b (d.get id b f)
 dis:=λs t b i m x=>a.dis s t b i (d.get s b m) (d.get t i x)
 tmp:=λc=>by
  rcases v.get c with k|k
  ·rw[k];exact .dead _
  have:=w c;rw[k] at this|-;refine(a.tmp c).pE (λy j u=>⟨u,bB.refl e j⟩) (λid m b f=>?_);obtain⟨i,r⟩:=zP.1 (this id m);have:=d.get id i r;rw[f] at this;obtain rfl:=dp this;exact⟨r,rfl,rfl,(a.tree id b f).1,λj _=>bB.refl e j⟩
 frame:=a.frame
 evo:=a.evo
 size:=a.size
 os:=a.os
 tape:=a.tape
 output:=a.output
 pin:=a.pin
def jE (a:List (Nat×ag)) (b:List (Nat×az)):Bool:=a.all λc=>c.2.ids.all λid=>(ak b id).isSome
def jE.get (d:jE M x=true) (c:Nat):∀id∈(gt M c).ids,(ak x id).isSome=true:=by
 intro id b;unfold gt at b;cases a:ak M c with
 |none=>rw[a] at b;simp[ag.ids] at b
 |some e=>
  rw[a] at b;have g:(c,e)∈M:=by
   clear d b
   induction M with
   |nil=>cases a
   |cons i l h=>
    obtain⟨k,j⟩:=i;rw[bG] at a;split at a
    ·rename_i f;subst f;obtain rfl:=dp a;simp
    exact eJ _ (h a)
  simp only[jE,ew] at d;exact d (c,e) g id b
section
mutual
def dm (P:Program):af->TypeId->Prop
 |.int f,T=>∃a,P.info? T=some a/\a.size=1/\a.bytes<=24/\a.zero=some (.int f 0)/\P.underlying T=some (.int f)
 |.bool,T=>∃a,P.info? T=some a/\a.size=1/\a.bytes<=24/\a.zero=some (.bool false)/\P.underlying T=some .bool
 |.str,T=>∃a,P.info? T=some a/\a.size=1/\a.bytes<=24/\a.zero=some (.string ByteArray.empty)/\P.underlying T=some .string
 |.aV _ b,T=>∃a E,P.info? T=some a/\a.size=1/\a.bytes<=24/\a.zero=some (.slice none 0 0)/\P.underlying T=some (.slice E)/\dm P b E
 |.osl b,T=>∃a E,P.info? T=some a/\a.size=1/\a.bytes<=24/\a.zero=some (.slice none 0 0)/\P.underlying T=some (.slice E)/\dm P b E
 |.ptr _ b,T=>∃a E,P.info? T=some a/\a.size=1/\a.bytes<=24/\a.zero=some (.pointer none)/\P.underlying T=some (.pointer E)/\dm P b E
 |.optr b,T=>∃a E,P.info? T=some a/\a.size=1/\a.bytes<=24/\a.zero=some (.pointer none)/\P.underlying T=some (.pointer E)/\dm P b E
 |.st b,T=>0<b.size/\∃a e d,P.info? T=some a/\a.size=b.size/\a.bytes<=24*b.size/\a.zero=some (.agg d)/\P.underlying T=some (.struct e)/\gm P b e.toList 0 d.toList/\d.size=b.size
 |.mp b,T=>∃a c E,P.info? T=some a/\a.size=1/\a.bytes<=24/\a.zero=some (.map none)/\P.underlying T=some (.map c E)/\P.underlying c=some (.int .i64)/\dm P b E
 |.dh _ b,T=>∃a c E,P.info? T=some a/\a.size=1/\a.bytes<=24/\a.zero=some (.map none)/\P.underlying T=some (.map c E)/\P.underlying c=some (.int .i64)/\dm P b E
 |_,_=>False
def gm (P:Program):af->List Field->Nat->cI->Prop
 |.pr a g,c::h,e,b=>c.offset=e/\dm P a c.type/\0<a.size/\(∃d f,P.info? c.type=some d/\d.zero=some f/\b.take a.size=f.cells.toList)/\gm P g h (e+a.size) (b.drop a.size)
 |.nil,[],_,b=>b=[]
 |_,_,_,_=>False
end
def mZ:af->Bool
 |.st _=>true
 |_=>false
structure JR (P:Program) (τ:af) (T:TypeId) (i:TypeInfo):Prop where
 info:P.info? T=some i
 size:i.size=τ.size
 bytes:i.bytes<=24*τ.size
 pos:0<τ.size
def dm.info {P:Program}:∀{τ:af} {T:TypeId},dm P τ T->∃a g,JR P τ T a/\P.underlying T=some g/\(match g with|.struct _|.array _ _=>true|_=>false)=mZ τ
 |.int _,_,⟨a,b,c,d,_,e⟩=>⟨a,_,⟨b,c,d,by simp[af.size]⟩,e,rfl⟩
 |.bool,_,⟨a,b,c,d,_,e⟩=>⟨a,_,⟨b,c,d,by simp[af.size]⟩,e,rfl⟩
 |.str,_,⟨a,b,c,d,_,e⟩=>⟨a,_,⟨b,c,d,by simp[af.size]⟩,e,rfl⟩
 |.aV _ _,_,⟨a,_,b,c,d,_,e,_⟩=>⟨a,_,⟨b,c,d,by simp[af.size]⟩,e,rfl⟩
 |.osl _,_,⟨a,_,b,c,d,_,e,_⟩=>⟨a,_,⟨b,c,d,by simp[af.size]⟩,e,rfl⟩
 |.ptr _ _,_,⟨a,_,b,c,d,_,e,_⟩=>⟨a,_,⟨b,c,d,by simp[af.size]⟩,e,rfl⟩
 |.optr _,_,⟨a,_,b,c,d,_,e,_⟩=>⟨a,_,⟨b,c,d,by simp[af.size]⟩,e,rfl⟩
 |.st i,_,⟨h,a,_,_,b,c,d,_,e,_⟩=>⟨a,_,⟨b,c,d,h⟩,e,rfl⟩
 |.pr _ _,_,f=>f.elim
 |.nil,_,f=>f.elim
 |.bP,_,f=>f.elim
 |.mp _,_,⟨a,_,_,b,c,d,_,e,_⟩=>⟨a,_,⟨b,c,d,by simp[af.size]⟩,e,rfl⟩
 |.dh _ _,_,⟨a,_,_,b,c,d,_,e,_⟩=>⟨a,_,⟨b,c,d,by simp[af.size]⟩,e,rfl⟩
def dm.Be {P:Program}:∀{τ:af} {T:TypeId},dm P τ T->∃g,g.cells.size=τ.size/\∀d,P.info? T=some d->d.zero=some g
 |.int _,_,⟨d,a,_,_,b,_⟩|.bool,_,⟨d,a,_,_,b,_⟩|.str,_,⟨d,a,_,_,b,_⟩=>⟨_,rfl,λf c=>by rw[a] at c;cases c;exact b⟩
 |.aV _ _,_,⟨d,_,a,_,_,b,_⟩|.osl _,_,⟨d,_,a,_,_,b,_⟩|.ptr _ _,_,⟨d,_,a,_,_,b,_⟩|.optr _,_,⟨d,_,a,_,_,b,_⟩=>⟨_,rfl,λf c=>by rw[a] at c;cases c;exact b⟩
 |.st n,_,⟨j,d,_,i,a,k,l,b,m,_,h⟩=>⟨.agg i,h,λf c=>by rw[a] at c;cases c;exact b⟩
 |.pr _ _,_,e=>e.elim
 |.nil,_,e=>e.elim
 |.bP,_,e=>e.elim
 |.mp _,_,⟨d,_,_,a,_,_,b,_⟩=>⟨_,rfl,λf c=>by rw[a] at c;cases c;exact b⟩
 |.dh _ _,_,⟨d,_,_,a,_,_,b,_⟩=>⟨_,rfl,λf c=>by rw[a] at c;cases c;exact b⟩
section
variable {P:Program} {τ:af} {T:TypeId}
def dm.sizeOf (c:dm P τ T) (b:World):(Go.sizeOf T).run P b=.ok τ.size b:=by obtain⟨e,d,a,_⟩:=c.info;simp[Go.sizeOf,typeInfo,a.info,a.size]
def dm.isAgg (c:dm P τ T) (a:World):(Go.isAgg T).run P a=.ok (mZ τ) a:=by obtain⟨g,b,f,e,d⟩:=c.info;simp only[Go.isAgg,Sem.run_bind,run_underlying e,Result.andThen_ok];rw[<-d];cases b<;>rfl
def dm.pos (a:dm P τ T):0<τ.size:=by obtain⟨d,c,b,_⟩:=a.info;exact b.pos
def Cg:∀{τ:af} {T:TypeId},dm P τ T->mZ τ=false->τ.size=1
 |.int _,_,_,_|.bool,_,_,_|.str,_,_,_|.aV _ _,_,_,_|.osl _,_,_,_|.ptr _ _,_,_,_|.optr _,_,_,_|.mp _,_,_,_|.dh _ _,_,_,_=>rfl
 |.st _,_,_,a=>by cases a
 |.pr _ _,_,a,_=>a.elim
 |.nil,_,a,_=>a.elim
 |.bP,_,a,_=>a.elim
def ze (a:mZ τ=false):bp τ i=i.headD undef:=by cases τ<;>first|rfl|cases a
def zf (a:mZ τ=true):bp τ i=.agg i.toArray:=by cases τ<;>first|rfl|cases a
def mq (d:dm P τ T) (c:i.length=τ.size) (e:∀a∈i,a.oneCell'=true):(bp τ i).cells=i.toArray:=by
 cases b:mZ τ with
 |true=>rw[zf b];rfl
 |false=>
  rw[ze b];rw[Cg d b] at c;obtain⟨a,rfl⟩:=rL.1 c;have:=e a ab;cases a<;>first|rfl|(simp[Value.oneCell'] at this)
def In (a:dm P τ T) (h:dt e c g i) (b:i.length=τ.size):(loadVar T ⟨c,g,none⟩).run P e=.ok (bp τ i) e:=by
 simp only[loadVar,Sem.run_bind,a.isAgg,Result.andThen_ok];cases d:mZ τ with
 |true=>
  simp only[if_true,Sem.run_bind,a.sizeOf,Result.andThen_ok];rw[<-b,run_loadCells_list e ⟨c,g,none⟩ i (λk f j=>by rw[Addr.add_lit];exact h k f j)];rw[zf d];rfl
 |false=>
  rw[Cg a d] at b;obtain⟨f,rfl⟩:=rL.1 b;have:=h 0 f rfl;simp only[lT] at this;rw[ze d];simp[this]
end
def jo:(τ:af)->Option τ.den
 |.int _=>some (0:Int)
 |.bool=>some false
 |.str=>some ByteArray.empty
 |.aV _ _=>some []
 |.osl _=>some []
 |.ptr _ _=>some none
 |.optr _=>none
 |.st c=>jo c
 |.pr a b=>match jo a,jo b with|some d,some e=>some (d,e)|_,_=>none
 |.nil=>some ()
 |.bP=>none
 |.mp _=>some none
 |.dh _ _=>some none
mutual
theorem ry {P:Program}:∀{τ:af} {T:TypeId} {g:τ.den},dm P τ T->jo τ=some g->∃a l,P.info? T=some a/\a.zero=some l/\l=bp τ l.cells.toList/\∀(e:bO->Nat->Prop) (f:World),aG e f τ l.cells.toList g []
 |.int p,_,g,⟨a,c,h,i,d,j⟩,b=>⟨a,_,c,d,rfl,λe f=>by cases b;exact⟨rfl,rfl⟩⟩
 |.bool,_,g,⟨a,c,h,i,d,j⟩,b=>⟨a,_,c,d,rfl,λe f=>by cases b;exact⟨rfl,rfl⟩⟩
 |.str,_,g,⟨a,c,h,i,d,j⟩,b=>⟨a,_,c,d,rfl,λe f=>by cases b;exact⟨rfl,rfl⟩⟩
 |.aV _ _,_,g,⟨a,_,c,h,i,d,j,_⟩,b=>⟨a,_,c,d,rfl,λe f=>by cases b;exact⟨rfl,none,0,rfl,a2 _,λ_=>rfl,.inl rfl⟩⟩
 |.osl _,_,g,⟨a,_,c,h,i,d,j,_⟩,b=>⟨a,_,c,d,rfl,λe f=>by cases b;exact⟨none,0,rfl,.inl ⟨rfl,rfl,rfl,rfl⟩⟩⟩
 |.ptr _ _,_,g,⟨a,_,c,h,i,d,j,_⟩,b=>⟨a,_,c,d,rfl,λe f=>by cases b;exact⟨rfl,rfl⟩⟩
 |.optr _,_,_,_,b=>by cases b
 |.st n,_,g,⟨_,a,o,q,c,h,i,d,j,m,_⟩,b=>⟨a,_,c,d,rfl,λe f=>Jl (τ:=n) m b e f⟩
 |.pr _ _,_,_,k,_=>k.elim
 |.nil,_,_,k,_=>k.elim
 |.bP,_,_,k,_=>k.elim
 |.mp _,_,g,⟨a,_,_,c,h,i,d,j,_⟩,b=>⟨a,_,c,d,rfl,λe f=>by cases b;exact⟨rfl,rfl⟩⟩
 |.dh _ _,_,g,⟨a,_,_,c,h,i,d,j,_⟩,b=>⟨a,_,c,d,rfl,λe f=>by cases b;exact⟨rfl,rfl⟩⟩
theorem Jl {P:Program}:∀{τ:af} {l:List Field} {g:Nat} {f:cI} {e:τ.den},gm P τ l g f->jo τ=some e->∀(b:bO->Nat->Prop) (d:World),aG b d τ f e []
 |.pr j k,t::y,g,f,e,a,c,b,d=>by
  obtain⟨u,m,v,⟨w,B,aq,q,r⟩,n⟩:=a;simp only[jo] at c;split at c
  ·rename_i z A o p;cases c;obtain⟨x,C,h,i,_,s⟩:=ry (τ:=j) m o;rw[aq] at h;obtain rfl:=dp h;rw[q] at i;obtain rfl:=dp i;exact⟨[],[],rfl,by rw[r];exact s b d,Jl (τ:=k) n p b d⟩
  cases c
 |.nil,[],_,f,e,a,c,b,d=>⟨rfl,a⟩
 |.pr _ _,[],_,_,_,a,_,_,_=>a.elim
 |.nil,_::_,_,_,_,a,_,_,_=>a.elim
 |.int _,_,_,_,_,a,_,_,_=>by cases a
 |.bool,_,_,_,_,a,_,_,_=>by cases a
 |.str,_,_,_,_,a,_,_,_=>by cases a
 |.aV _ _,_,_,_,_,a,_,_,_=>by cases a
 |.osl _,_,_,_,_,a,_,_,_=>by cases a
 |.ptr _ _,_,_,_,_,a,_,_,_=>by cases a
 |.optr _,_,_,_,_,a,_,_,_=>by cases a
 |.st _,_,_,_,_,a,_,_,_=>by cases a
 |.bP,_,_,_,_,a,_,_,_=>by cases a
 |.mp _,_,_,_,_,a,_,_,_=>by cases a
 |.dh _ _,_,_,_,_,a,_,_,_=>by cases a
end
def aT:af->af->Bool
 |.int g,.int h=>if g=h then true else false
 |.bool,.bool|.str,.str|.nil,.nil=>true
 |.aV _ a,.aV _ b|.aV _ a,.osl b|.osl a,.aV _ b|.osl a,.osl b=>aT a b
 |.ptr _ a,.ptr _ b|.ptr _ a,.optr b|.optr a,.ptr _ b|.optr a,.optr b=>aT a b
 |.st a,.st b=>aT a b
 |.mp a,.mp b|.mp a,.dh _ b|.dh _ a,.mp b|.dh _ a,.dh _ b=>aT a b
 |.pr c d,.pr e f=>aT c e&&aT d f
 |_,_=>false
theorem aT.size:∀{τ b:af},aT τ b=true->τ.size=b.size:=by
 intro τ
 induction τ with
 |st h c=>intro b a;cases b<;>simp only[aT] at a<;>first|(simp only[af.size];exact c a)|cases a
 |pr f g d e=>
  intro b a;cases b<;>simp only[aT] at a<;>try (cases a;done)
  simp only[a5] at a;simp only[af.size];rw[d a.1,e a.2]
 |_=>intro b a;cases b<;>simp[aT] at a<;>simp[af.size]
mutual
theorem dm.lay {P:Program}:∀{τ c:af} {T:TypeId},aT τ c=true->dm P τ T->dm P c T
 |.int q,c,_,a,b=>by cases c<;>simp[aT] at a;subst a;exact b
 |.bool,c,_,a,b=>by cases c<;>simp[aT] at a;exact b
 |.str,c,_,a,b=>by cases c<;>simp[aT] at a;exact b
 |.aV _ k,c,_,a,b=>by obtain⟨h,E,d,i,j,e,f,g⟩:=b;cases c<;>simp only[aT] at a<;>first|exact⟨h,E,d,i,j,e,f,dm.lay a g⟩|cases a
 |.osl k,c,_,a,b=>by obtain⟨h,E,d,i,j,e,f,g⟩:=b;cases c<;>simp only[aT] at a<;>first|exact⟨h,E,d,i,j,e,f,dm.lay a g⟩|cases a
 |.ptr _ k,c,_,a,b=>by obtain⟨h,E,d,i,j,e,f,g⟩:=b;cases c<;>simp only[aT] at a<;>first|exact⟨h,E,d,i,j,e,f,dm.lay a g⟩|cases a
 |.optr k,c,_,a,b=>by obtain⟨h,E,d,i,j,e,f,g⟩:=b;cases c<;>simp only[aT] at a<;>first|exact⟨h,E,d,i,j,e,f,dm.lay a g⟩|cases a
 |.st k,c,_,a,b=>by
  obtain⟨p,h,n,o,d,i,j,e,f,g,l⟩:=b;cases c<;>simp only[aT] at a<;>try (cases a;done)
  have:=aT.size a;exact⟨U,h,n,o,d,U,U,e,f,gm.lay a g,U⟩
 |.pr _ _,_,_,_,b=>b.elim
 |.nil,_,_,_,b=>b.elim
 |.bP,_,_,_,b=>b.elim
 |.mp k,c,_,a,b=>by obtain⟨h,m,E,d,i,j,e,f,g,l⟩:=b;cases c<;>simp only[aT] at a<;>first|exact⟨h,m,E,d,i,j,e,f,g,dm.lay a l⟩|cases a
 |.dh _ k,c,_,a,b=>by obtain⟨h,m,E,d,i,j,e,f,g,l⟩:=b;cases c<;>simp only[aT] at a<;>first|exact⟨h,m,E,d,i,j,e,f,g,dm.lay a l⟩|cases a
theorem gm.lay {P:Program}:∀{τ c:af} {f:List Field} {d:Nat} {e:cI},aT τ c=true->gm P τ f d e->gm P c f d e
 |.pr k l,c,m::o,d,e,b,a=>by
  obtain⟨g,h,n,i,j⟩:=a;cases c<;>simp only[aT] at b<;>try (cases b;done)
  simp only[a5] at b;have:=aT.size b.1;exact⟨g,dm.lay b.1 h,U,by rw[<-this];exact i,by rw[<-this];exact gm.lay b.2 j⟩
 |.nil,c,[],_,_,b,a=>by cases c<;>simp[aT] at b;exact a
 |.pr _ _,_,[],_,_,_,a=>a.elim
 |.nil,_,_::_,_,_,_,a=>a.elim
 |.int _,_,_,_,_,_,a=>by cases a
 |.bool,_,_,_,_,_,a=>by cases a
 |.str,_,_,_,_,_,a=>by cases a
 |.aV _ _,_,_,_,_,_,a=>by cases a
 |.osl _,_,_,_,_,_,a=>by cases a
 |.ptr _ _,_,_,_,_,_,a=>by cases a
 |.optr _,_,_,_,_,_,a=>by cases a
 |.st _,_,_,_,_,_,a=>by cases a
 |.bP,_,_,_,_,_,a=>by cases a
 |.mp _,_,_,_,_,_,a=>by cases a
end
structure ql where
 b:Nat
 T:TypeId
 k:IntKind
 xs:cP
def Do (P:Program) (a:ql):Prop:=∃b,P.underlying a.T=some (.array a.xs.length b)/\dm P (.int a.k) b
structure dz where
 P:Program
 tt:List (TypeId×af)
 ok:∀T τ,ak tt T=some τ->dm P τ T
 mix:P.follows .mixedOrders=true
 glob:List ql:=[]
 gok:∀g∈glob,Do P g:=by intro g h;cases h
end
section
def fh:Nat:=4294967296
def aL {b:Type} (c:List b) (a:Int):Option b:=if 0<=a then c[a.toNat]? else none
def Fl {b:List y} {c:y} (a:aL b S=some c):S=(S.toNat:Int)/\S.toNat<b.length/\b[S.toNat]?=some c:=by
 unfold aL at a;split at a
 ·exact⟨U,(ec.1 a).1,a⟩
 cases a
inductive fw where
 |dc (av:ag) (new:List (Nat×az))
 |part (α:Type) (φ:α->Prop) (f:α->ag×List (Nat×az))
 |bad
def fw.K (e:fw) (Q:ag->List (Nat×az)->Prop):Prop:=
 match e with
 |.dc c d=>Q c d
 |.part f g b=>∃a:f,g a/\Q (b a).1 (b a).2
 |.bad=>False
def af.pure:af->Bool
 |.osl _|.optr _|.bP|.mp _=>false
 |.st c=>c.pure
 |.pr a b=>a.pure&&b.pure
 |_=>true
def dn:af->List aO->Option af
 |τ,[]=>some τ
 |.osl c,.idx _::b=>dn c b
 |.optr c,.deref::b=>dn c b
 |.mp c,.deref::b=>dn c b
 |.st c,.unst::b=>dn c b
 |.pr a _,.fst::b=>dn a b
 |.pr _ d,.snd::b=>dn d b
 |_,_=>none
def dw:af->Nat->Option (List aO×af)
 |.pr a _,0=>some ([.fst],a)
 |.pr _ c,d+1=>match dw c d with|some b=>some (.snd::b.1,b.2)|none=>none
 |_,_=>none
def c9:af->Nat->Nat
 |.pr _ _,0=>0
 |.pr a b,c+1=>a.size+c9 b c
 |_,_=>0
def nV:(e:af)->e.den->Nat->Option az
 |.pr a _,b,0=>some ⟨a,b.1⟩
 |.pr _ c,b,d+1=>nV c b.2 d
 |_,_,_=>none
def A0 {h:Program}:∀{τ:af} {j:List Field} {f:Nat} {g:cI} {e:Nat} {s:List aO} {τf:af},gm h τ j f g->dw τ e=some (s,τf)->∃c,j[e]?=some c/\c.offset=f+c9 τ e/\dm h τf c.type
 |.pr a i,c::q,f,g,0,s,τf,d,b=>by simp only[dw,bH,e9] at b;obtain⟨rfl,rfl⟩:=b;exact⟨c,rfl,by rw[d.1];rfl,d.2.1⟩
 |.pr a i,c::q,f,g,e+1,s,τf,d,b=>by
  simp only[dw] at b;split at b
  ·rename_i k p;simp only[bH,e9] at b;obtain⟨rfl,rfl⟩:=b;obtain⟨l,m,n,o⟩:=A0 (τ:=i) d.2.2.2.2 (s:=k.1) (τf:=k.2) p;exact⟨l,by simpa using m,by rw[n];simp only[c9];omega,o⟩
  cases b
 |.pr _ _,[],_,_,_,_,_,d,_=>d.elim
 |.int _,_,_,_,_,_,_,_,b=>by cases b
 |.bool,_,_,_,_,_,_,_,b=>by cases b
 |.str,_,_,_,_,_,_,_,b=>by cases b
 |.aV _ _,_,_,_,_,_,_,_,b=>by cases b
 |.osl _,_,_,_,_,_,_,_,b=>by cases b
 |.ptr _ _,_,_,_,_,_,_,_,b=>by cases b
 |.optr _,_,_,_,_,_,_,_,b=>by cases b
 |.st _,_,_,_,_,_,_,_,b=>by cases b
 |.nil,_,_,_,_,_,_,_,b=>by cases b
 |.bP,_,_,_,_,_,_,_,b=>by cases b
def A3:∀{τ:af} {f:τ.den} {d:Nat} {c:az},nV τ f d=some c->∃e,dw τ d=some (e,c.1)
 |.pr a g,f,0,c,b=>by simp only[nV,bH] at b;subst b;exact⟨_,rfl⟩
 |.pr a g,f,d+1,c,b=>by obtain⟨e,h⟩:=A3 (τ:=g) b;exact⟨.snd::e,by simp[dw,h]⟩
 |.int _,_,_,_,b=>by cases b
 |.bool,_,_,_,b=>by cases b
 |.str,_,_,_,b=>by cases b
 |.aV _ _,_,_,_,b=>by cases b
 |.osl _,_,_,_,b=>by cases b
 |.ptr _ _,_,_,_,b=>by cases b
 |.optr _,_,_,_,b=>by cases b
 |.st _,_,_,_,b=>by cases b
 |.nil,_,_,_,b=>by cases b
 |.bP,_,_,_,b=>by cases b
def sw:∀{τ:af} {c:Nat} {s:List aO} {tf:af},dw τ c=some (s,tf)->c9 τ c+tf.size<=τ.size
 |.pr a d,0,s,tf,b=>by simp only[dw,bH,e9] at b;obtain⟨_,rfl⟩:=b;simp[c9,af.size]
 |.pr a d,c+1,s,tf,b=>by
  simp only[dw] at b;split at b
  ·rename_i e f;simp only[bH,e9] at b;obtain⟨_,rfl⟩:=b;have:=sw (τ:=d) (s:=e.1) (tf:=e.2) f;simp only[c9,af.size];omega
  cases b
 |.int _,_,_,_,b=>by cases b
 |.bool,_,_,_,b=>by cases b
 |.str,_,_,_,b=>by cases b
 |.aV _ _,_,_,_,b=>by cases b
 |.osl _,_,_,_,b=>by cases b
 |.ptr _ _,_,_,_,b=>by cases b
 |.optr _,_,_,_,b=>by cases b
 |.st _,_,_,_,b=>by cases b
 |.nil,_,_,_,b=>by cases b
 |.bP,_,_,_,b=>by cases b
def A2 {j:bO->Nat->Prop} {w:World}:∀{τ:af} {f:τ.den} {e:Nat} {c:az} {d:cI},aG j w τ d f []->nV τ f e=some c->aG j w c.1 ((d.drop (c9 τ e)).take c.1.size) c.2 []/\c9 τ e+c.1.size<=τ.size
 |.pr a k,f,0,c,d,i,b=>by simp only[nV,bH] at b;subst b;obtain⟨g,f2,h,l,m⟩:=i;obtain⟨rfl,rfl⟩:g=[]/\f2=[]:=(by simpa[eq_comm] using h);exact⟨by simpa[c9] using l,by simp[c9,af.size]⟩
 |.pr a k,f,e+1,c,d,i,b=>by obtain⟨g,f2,h,l,m⟩:=i;obtain⟨rfl,rfl⟩:g=[]/\f2=[]:=(by simpa[eq_comm] using h);obtain⟨n,o⟩:=A2 (τ:=k) m b;refine⟨?_,by simp only[c9,af.size];omega⟩;simp only[c9];rwa[oD] at n
 |.int _,_,_,_,_,_,b=>by cases b
 |.bool,_,_,_,_,_,b=>by cases b
 |.str,_,_,_,_,_,b=>by cases b
 |.aV _ _,_,_,_,_,_,b=>by cases b
 |.osl _,_,_,_,_,_,b=>by cases b
 |.ptr _ _,_,_,_,_,_,b=>by cases b
 |.optr _,_,_,_,_,_,b=>by cases b
 |.st _,_,_,_,_,_,b=>by cases b
 |.nil,_,_,_,_,_,b=>by cases b
 |.bP,_,_,_,_,_,b=>by cases b
theorem aJ.en {w:World} {a:Loc}:aJ w d v i [] o a A↔d=o/\v=a/\i=A:=by cases d<;>exact Iff.rfl
def aJ.append {w:World}:∀{p c:List aO} {τ u v:af} {n q r:Loc} {m k l:cI},aJ w τ n m p u q k->aJ w u q k c v r l->aJ w τ n m (p++c) v r l
 |[],c,τ,_,_,_,_,_,_,_,_,a,b=>by obtain⟨rfl,rfl,rfl⟩:=aJ.en.1 a;exact b
 |s::p,c,τ,_,_,_,_,_,_,_,_,a,b=>by
  cases τ<;>cases s<;>simp only[aJ] at a
  case osl.idx t i=>
   obtain⟨d,o,z,x,e,f,g,h,j,y⟩:=a;exact⟨d,o,z,x,e,f,g,h,j,y.append b⟩
  case optr.deref t=>
   obtain⟨d,o,e,f,g,h,j⟩:=a;exact⟨d,o,e,f,g,h,j.append b⟩
  case st.unst t=>exact aJ.append (p:=p) (τ:=t) a b
  case pr.fst t1 t2=>exact aJ.append (p:=p) (τ:=t1) a b
  case pr.snd t1 t2=>exact aJ.append (p:=p) (τ:=t2) a b
def aJ.here {w:World}:aJ w d v i [] d v i:=by cases d<;>exact⟨rfl,rfl,rfl⟩
def aJ.ty {w:World}:∀{p:List aO} {τ c:af} {m n:Loc} {e f:cI},aJ w τ m e p c n f->dn τ p=some c
 |[],τ,_,_,_,_,_,a=>by obtain⟨rfl,_⟩:=aJ.en.1 a;cases τ<;>rfl
 |s::p,τ,_,_,_,_,_,a=>by
  cases τ<;>cases s<;>simp only[aJ] at a
  case osl.idx t i=>obtain⟨d,o,r,q,g,h,j,k,b,l⟩:=a;exact l.ty
  case optr.deref t=>obtain⟨d,o,g,h,j,k,b⟩:=a;exact b.ty
  case st.unst t=>exact aJ.ty (p:=p) (τ:=t) a
  case pr.fst t1 t2=>exact aJ.ty (p:=p) (τ:=t1) a
  case pr.snd t1 t2=>exact aJ.ty (p:=p) (τ:=t2) a
def aJ.at {w:World}:∀{q:List aO} {τ r:af} {h p:Loc} {g j:cI},aJ w τ h g q r p j->g.length=τ.size->(∀b o,h=some (b,o)->dt w b o g)->j.length=r.size/\∀b o,p=some (b,o)->dt w b o j
 |[],τ,_,_,_,_,_,d,f,e=>by obtain⟨rfl,rfl,rfl⟩:=aJ.en.1 d;exact⟨f,e⟩
 |s::q,τ,_,h,_,g,_,d,f,e=>by
  cases τ<;>cases s<;>simp only[aJ] at d
  case osl.idx t i=>
   obtain⟨b,o,A,z,u,v,n,k,l,x⟩:=d;exact x.at k (λm y c=>by simp only[bH,e9] at c;obtain⟨rfl,rfl⟩:=c;exact l)
  case optr.deref t=>
   obtain⟨b,o,u,v,n,k,l⟩:=d;exact l.at n (λm y c=>by simp only[bH,e9] at c;obtain⟨rfl,rfl⟩:=c;exact k)
  case st.unst t=>exact aJ.at (τ:=t) d f e
  case pr.fst a b=>
   exact aJ.at (τ:=a) d (by simp only[af.size] at f;simp;omega) (λb o c=>(e b o c).take)
  case pr.snd a b=>
   refine aJ.at (τ:=b) d (by simp only[af.size] at f;simp;omega) (λm o c=>?_);cases h with
   |none=>simp at c
   |some B=>
    simp only[hl,bH,e9] at c;obtain⟨rfl,rfl⟩:=c;exact(e _ _ rfl).drop
def aJ.qN {w:World}:∀{τ:af} {e:Nat} {s:List aO} {τf:af} {l:Loc} {cs:cI},dw τ e=some (s,τf)->aJ w τ l cs s τf (l.map λc=>(c.1,c.2+c9 τ e)) ((cs.drop (c9 τ e)).take τf.size)
 |.pr a f,0,s,τf,l,cs,d=>by
  simp only[dw,bH,e9] at d;obtain⟨rfl,rfl⟩:=d;have:(l.map λc=>(c.1,c.2+c9 (.pr a f) 0))=l:=(by cases l<;>simp[c9]);rw[this];simp only[aJ,c9,mF]
  first|exact aJ.here|exact⟨rfl,rfl,rfl⟩|trivial|simp
 |.pr a f,e+1,s,τf,l,cs,d=>by
  simp only[dw] at d;split at d
  ·rename_i c g;simp only[bH,e9] at d;obtain⟨rfl,rfl⟩:=d;have:=aJ.qN (w:=w) (τ:=f) (s:=c.1) (τf:=c.2) (l:=l.map λc=>(c.1,c.2+a.size)) (cs:=cs.drop a.size) g;simp only[aJ,c9];rw[oD] at this;cases l with
   |none=>exact this
   |some h=>simp only[hl,Nat.add_assoc] at this|-;exact this
  cases d
 |.int _,_,_,_,_,_,b=>by cases b
 |.bool,_,_,_,_,_,b=>by cases b
 |.str,_,_,_,_,_,b=>by cases b
 |.aV _ _,_,_,_,_,_,b=>by cases b
 |.osl _,_,_,_,_,_,b=>by cases b
 |.ptr _ _,_,_,_,_,_,b=>by cases b
 |.optr _,_,_,_,_,_,b=>by cases b
 |.st _,_,_,_,_,_,b=>by cases b
 |.nil,_,_,_,_,_,b=>by cases b
 |.bP,_,_,_,_,_,b=>by cases b
def bN.uniq:∀{p:List aO} {τ:af} {e:τ.den} {c:af} {f g:c.den},bN τ e p c f->bN τ e p c g->f=g
 |[],τ,_,_,_,_,a,b=>by obtain⟨rfl,a⟩:=bN.en.1 a;obtain⟨_,b⟩:=bN.en.1 b;exact a.symm.trans b
 |s::p,τ,_,_,_,_,a,b=>by
  cases τ<;>cases s<;>simp only[bN] at a b
  case osl.idx=>
   obtain⟨i,h,a⟩:=a;obtain⟨j,d,b⟩:=b;rw[h] at d;obtain rfl:=dp d;exact a.uniq b
  case optr.deref=>exact bN.uniq (p:=p) a b
  case st.unst=>exact bN.uniq (p:=p) a b
  case pr.fst=>exact bN.uniq (p:=p) a b
  case pr.snd=>exact bN.uniq (p:=p) a b
def Yields (E:dz) (C:c8) (st:aB) (a:Act) (w:World) (I:Nat->Prop) (rt:Nat->cI) (fp:Nat->cO) (o:Oper) (Q:ag->List (Nat×az)->Prop):Prop:=
 ∃j d e i g f c,(execOp a.eval o).run E.P w=.ok (.value j) d/\fu w d/\(∀b,I b->e b)/\(∀b,e b->I b\/(w.heap.size<=b/\b<d.heap.size))/\rO C st w d e c i g/\bk (aY e C.B) d (c++st.h) (de c i rt) (de c g fp) f j/\Q f c
section
variable {E:dz} {C:c8} {st:aB} {a:Act} {w:World} {I:Nat->Prop} {rt:Nat->cI} {fp:Nat->cO} {o:Oper} {Q:ag->List (Nat×az)->Prop}
def Yields.pure {v:Value} (d:(execOp a.eval o).run E.P w=.ok (.value v) w) (e:bk (aY I C.B) w st.h rt fp L v) (c:Q L []):Yields E C st a w I rt fp o Q:=
 ⟨v,w,I,rt,fp,L,[],d,.refl w,λ_ b=>b,λ_ b=>.inl b,.nil,e,c⟩
def Yields.wp (t:bi C st a.tmps w I rt fp) (k:Yields E C st a w I rt fp o Q) {next:Act->World->Prop} {j:Exit->Act->World->Prop} {f:Nat} (u:o.dst=some f) (v:C.ok f) (x:∀b c e d,Q b c->e.defers=a.defers->ez C ⟨(f,b)::st.g,c++st.h⟩ e.tmps d->next e d):o.wp E.P a w next j:=by
 obtain⟨y,d,i,A,z,b,c,l,m,n,p,q,r,s⟩:=k;unfold Oper.wp;rw[l];show next (a.put o.dst y) d
 rw[u];exact x b c _ _ s rfl ⟨i,_,_,(t.ext m n p q).put v r⟩
def jd (h:BinOp) (a:IntKind) (d:Int) (g:IntKind) (b:Int):fw:=
 let c (i:Prop) (f:Int):fw:=if a=g then .part Int (λc=>i/\f=c) (λc=>(.val (.int a) c,[])) else .bad
 let e (f:Bool):fw:=if a=g then .dc (.val .bool f) [] else .bad
 match h with
 |.add=>c True (a.wrap (d+b))
 |.sub=>c True (a.wrap (d-b))
 |.mul=>c True (a.wrap (d*b))
 |.quo=>c (b≠0) (a.wrap (d.tdiv b))
 |.rem=>c (b≠0) (d.tmod b)
 |.and=>c True (a.wrap (BitVec.ofInt a.bits d&&&BitVec.ofInt a.bits b).toNat)
 |.or=>c True (a.wrap (BitVec.ofInt a.bits d|||BitVec.ofInt a.bits b).toNat)
 |.xor=>c True (a.wrap (BitVec.ofInt a.bits d^^^BitVec.ofInt a.bits b).toNat)
 |.andNot=>c True (a.wrap (BitVec.ofInt a.bits d&&&~~~BitVec.ofInt a.bits b).toNat)
 |.shl=>.part Int (λc=>0<=b/\a.wrap (d*2^min b.toNat a.bits)=c) (λc=>(.val (.int a) c,[]))
 |.shr=>.part Int (λc=>0<=b/\d.fdiv (2^min b.toNat a.bits)=c) (λc=>(.val (.int a) c,[]))
 |.eql=>e (d==b)
 |.neq=>e (d !=b)
 |.lss=>e (decide (d<b))
 |.leq=>e (decide (d<=b))
 |.gtr=>e (decide (d>b))
 |.geq=>e (decide (d>=b))
def Ab (c:BinOp) (a b:ag):fw:=
 match a,b with
 |.val (.int d) a,.val (.int e) b=>jd c d a e b
 |.val .bool a,.val .bool b=>match c with
  |.eql=>.dc (.val .bool (a==b)) []
  |.neq=>.dc (.val .bool (!(a==b))) []
  |_=>.bad
 |_,_=>.bad
def KF {d:BinOp} {r:TypeId} {j:IntKind} {m:Int} (f:o.op=.binOp d H b h r) (g:a.eval b=.int u m) (i:a.eval h=.int j S) (c:(jd d u m j S).K Q):Yields E C st a w I rt fp o Q:=by
 have e:∀w,(eqGuard d H b h (.int u m) (.int j S)).run E.P w=.ok () w:=λw=>(by unfold eqGuard;cases d<;>simp);have n:d=.shl->Yields E C st a w I rt fp o Q:=(by rintro rfl;simp only[jd] at c;obtain⟨k,⟨l,rfl⟩,c⟩:=c;exact .pure (v:=.int u _) (by simp[execOp,f,g,i,e,binOp,Op.shift,(U:¬S<0)]) (.int u _) c);have p:d=.shr->Yields E C st a w I rt fp o Q:=(by rintro rfl;simp only[jd] at c;obtain⟨k,⟨l,rfl⟩,c⟩:=c;exact .pure (v:=.int u _) (by simp[execOp,f,g,i,e,binOp,Op.shift,(U:¬S<0)]) (.int u _) c);by_cases q:u=j
 case neg=>
  cases d<;>simp only[jd,q,if_false] at c
  case shl=>exact n rfl
  case shr=>exact p rfl
  all_goals exact c.elim
 subst q;cases d<;>simp only[jd,if_true] at c
 case shl=>exact n rfl
 case shr=>exact p rfl
 case quo|rem=>
  obtain⟨k,⟨l,rfl⟩,c⟩:=c;exact .pure (v:=.int u _) (by simp[execOp,f,g,i,e,binOp,Op.intDiv,l]) (.int u _) c
 case add|sub|mul=>
  obtain⟨k,⟨_,rfl⟩,c⟩:=c;exact .pure (v:=.int u _) (by simp[execOp,f,g,i,e,binOp,Op.intArith]) (.int u _) c
 case and|or|xor|andNot=>
  obtain⟨k,⟨_,rfl⟩,c⟩:=c;exact .pure (v:=.int u _) (by simp only[execOp,f,g,i,Sem.run_bind,e,binOp,Op.intBits];simp) (.int u _) c
 all_goals exact .pure (v:=.bool _) (by simp[execOp,f,g,i,e,binOp,Op.intCmp]) (.bool _) c
def run_equalIn_bool (w:World) (c:Nat) (a b:Bool) (d:O.underlying H=some .bool):(Op.equalIn (c+1) H (.bool a) (.bool b)).run O w=.ok (a==b) w:=by simp[Op.equalIn,run_underlying d]
def run_eql_bool (w:World) (a b:Bool) (c:O.underlying H=some .bool):(binOp .eql H (.bool a) (.bool b)).run O w=.ok (.bool (a==b)) w:=by simp only[binOp];simp[Op.equal,Op.maxDepth,run_equalIn_bool w 9999 a b c]
def run_neq_bool (w:World) (a b:Bool) (c:O.underlying H=some .bool):(binOp .neq H (.bool a) (.bool b)).run O w=.ok (.bool (!(a==b))) w:=by simp only[binOp];simp[Op.equal,Op.maxDepth,run_equalIn_bool w 9999 a b c]
def D8 (t:bi C st a.tmps w I rt fp) {i:BinOp} {D:TypeId} (q:o.op=.binOp i H b h D) (B:∀j k:Bool,(i=.eql\/i=.neq)->(aI st.g b=.val .bool j/\aI st.g h=.val .bool k)->E.P.underlying H=some .bool) (d:(Ab i (aI st.g b) (aI st.g h)).K Q):Yields E C st a w I rt fp o Q:=by
 have e:=t.aI b;have f:=t.aI h;unfold Ab at d;split at d
 ·rename_i G L J M n p;rw[n] at e;rw[p] at f;obtain⟨c,m⟩:∃c,c=a.eval b:=⟨_,rfl⟩;obtain⟨F,l⟩:∃c,c=a.eval h:=⟨_,rfl⟩;rw[<-m] at e;rw[<-l] at f;cases e with|val r=>cases f with|val s=>
  obtain⟨_,rfl⟩:=r;obtain⟨_,rfl⟩:=s;exact KF q m.symm l.symm d
 ·rename_i j k n p;have l:=B j k;have A:aI st.g b=.val .bool j/\aI st.g h=.val .bool k:=⟨n,p⟩;rw[n] at e;rw[p] at f;obtain⟨c,m⟩:∃c,c=a.eval b:=⟨_,rfl⟩;obtain⟨F,x⟩:∃c,c=a.eval h:=⟨_,rfl⟩;rw[<-m] at e;rw[<-x] at f;cases e with|val r=>cases f with|val s=>
  obtain⟨_,rfl⟩:=r;obtain⟨_,rfl⟩:=s;have z:a.eval b=.bool j:=m.symm;have y:a.eval h=.bool k:=x.symm;have u:∀w,(eqGuard i H b h (.bool j) (.bool k)).run E.P w=.ok () w:=λw=>(by unfold eqGuard;cases i<;>simp);split at d
  ·have:=l (.inl rfl) A;exact .pure (v:=.bool _) (by simp only[execOp,q,z,y,Sem.run_bind,u,Result.andThen_ok,run_eql_bool _ _ _ this];rfl) (.bool _) d
  ·have:=l (.inr rfl) A;exact .pure (v:=.bool _) (by simp only[execOp,q,z,y,Sem.run_bind,u,Result.andThen_ok,run_neq_bool _ _ _ this];rfl) (.bool _) d
  exact d.elim
 exact d.elim
end
end
section
section
variable {E:dz} {C:c8} {st:aB} {a:Act} {w:World} {I:Nat->Prop} {rt:Nat->cI} {fp:Nat->cO} {o:Oper} {Q:ag->List (Nat×az)->Prop}
theorem bi.notM {g:cG} (d:bi C st g w I rt fp) {id:Nat} {c:az} (f:ak st.h id=some c):∀a∈fp id,∀b,¬aY I C.B b a:=λa e b i=>by have:=(d.tree id c f).2.2 a e;grind [kN]
theorem bi.ip {q:cG} (e:bi C st q w I rt fp) {id:Nat} {a:az} (f:ak st.h id=some a) {p:List aO} {τ:af} {g:τ.den} (l:bN a.1 a.2 p τ g) (m:aJ w a.1 none (rt id) p d v i):∃_e:d=τ,∃b,aG (aY I C.B) w τ i g b/\mG w v i τ.size/\∀j∈b,j∈fp id:=by obtain⟨o,n,_⟩:=e.tree id a f;obtain⟨x,r,b,y,k,s,t,u,_⟩:=yq p (loc:=none) o (λ_ _ c=>by cases c) n (λ_ _ c=>by cases c) (e.notM f) l;obtain⟨rfl,rfl,rfl⟩:=m.hn k;grind
def bi.H9 (e:bi C st B w I rt fp) {id:Nat} {a:az} (g:ak st.h id=some a) (f:aJ w a.1 none (rt id) m d v i):i.length=d.size/\∀b o,v=some (b,o)->dt w b o i:=f.at (e.tree id a g).1.len (λ_ _ c=>by cases c)
theorem mh {u:bO->Nat->Prop}:∀{p:List aO} {τ:af} {E:Loc} {j:cI} {m:τ.den} {g:cO} {c:af} {F:Loc} {n:cI},aG u w τ j m g->aJ w τ E j p (.optr c) F n->∃d o e,n=[.pointer (some ⟨d,o,none⟩)]/\e.length=c.size/\dt w d o e
 |[],τ,_,_,_,_,_,_,_,a,b=>by obtain⟨rfl,rfl,rfl⟩:=aJ.en.1 b;obtain⟨d,o,g,e,q,_,t,h,_⟩:=a;grind
 |s::p,τ,_,j,m,g,_,_,_,a,b=>by
  cases τ<;>cases s<;>simp only[aJ] at b
  case osl.idx c i=>
   obtain⟨d,o,N,J,e,rfl,r,t,h,l⟩:=b;obtain⟨I,K,f,a⟩:=a;simp only[fd,Value.slice.injEq,and_true] at f;obtain⟨rfl,rfl,rfl⟩:=f;rcases a with⟨k,_⟩|⟨v,G,B,k,_,aq,O,P,H⟩
   ·cases k
   cases k;obtain⟨z,L,x,y⟩:=H i m[i] (B[i]'(by omega)) ab ab
   obtain rfl:=h.eq x U;exact mh (p:=p) y l
  case optr.deref c=>
   obtain⟨d,o,e,rfl,t,h,l⟩:=b;obtain⟨v,G,g,z,f,_,M,C,_,D⟩:=a;simp only[fd,Value.pointer.injEq,bH,Addr.mk.injEq,and_true] at f;obtain⟨rfl,rfl⟩:=f;obtain rfl:=h.eq C U;exact mh (p:=p) D l
  case st.unst c=>exact mh (p:=p) (τ:=c) a b
  case pr.fst t1 t2=>obtain⟨A,f2,_,q,_⟩:=a;exact mh (p:=p) (τ:=t1) q b
  case pr.snd t1 t2=>obtain⟨A,f2,_,_,r⟩:=a;exact mh (p:=p) (τ:=t2) r b
def eA (tt:List (TypeId×af)) (a:TypeId):Option af:=match ak tt a with|some (.aV _ b)=>some b|_=>none
def iR (tt:List (TypeId×af)) (a:TypeId):Option af:=match ak tt a with|some (.st b)=>some b|_=>none
theorem eA.ok {a:TypeId} {e:af} (c:eA E.tt a=some e):∃d b,E.P.info? a=some d/\E.P.underlying a=some (.slice b)/\dm E.P e b:=by
 unfold eA at c;split at c
 ·rename_i j k f;cases c;obtain⟨d,b,g,_,_,_,h,i⟩:=E.ok a _ f;grind
 grind
theorem iR.ok {a:TypeId} {d:af} (c:iR E.tt a=some d):∃b e,E.P.underlying a=some (.struct b)/\gm E.P d b.toList 0 e:=by
 unfold iR at c;split at c
 ·rename_i k f;cases c;obtain⟨_,j,b,e,g,_,_,_,h,i,_⟩:=E.ok a _ f;grind
 grind
def qX (tt:List (TypeId×af)) (e:List (Nat×az)) (g:TypeId) (b:ag):fw:=
 match eA tt g with
 |none=>.bad
 |some _=>match b with
  |.val (.aV _ _) a=>.dc (.val (.int .i64) (a.length:Int)) []
  |.bD (.slice none 0 0)=>.dc (.val (.int .i64) (0:Int)) []
  |.ref id d=>match ak e id with
   |some ⟨c,b⟩=>match dn c d with
    |some (.osl f)=>.part (List f.den) (λa=>bN c b d (.osl f) a) (λa=>(.val (.int .i64) (a.length:Int),[]))
    |_=>.bad
   |none=>.bad
  |.view _ _ i h=>.dc (.val (.int .i64) ((h-i:Nat):Int)) []
  |.app id d c j _=>match ak e id with
   |some ⟨k,b⟩=>.part (List c.den) (λa=>bN k b d (.osl c) a) (λa=>(.val (.int .i64) ((a.length+j.length:Nat):Int),[]))
   |none=>.bad
  |_=>.bad
def sF (f:eA E.tt H=some d) (h:o.op=.call {callee:=.builtin .len,args:=#[b],argTypes:=#[H]}) (i:a.eval b=.slice r c g):(execOp a.eval o).run E.P w=.ok (.value (.int .i64 c)) w:=by obtain⟨k,j,_,e,_⟩:=eA.ok f;simp[execOp,h,resolve,invoke,builtin,i,Builtin.len_,run_underlying e,goInt]
def NX (s:bi C st a.tmps w I rt fp) (j:o.op=.call {callee:=.builtin .len,args:=#[b],argTypes:=#[H]}) (c:(qX E.tt st.h H (aI st.g b)).K Q):Yields E C st a w I rt fp o Q:=by
 have d:=s.aI b;unfold qX at c;split at c
 ·exact c.elim
 rename_i T i;generalize f:a.eval b=U at d;split at c
 ·rename_i R B u e;rw[e] at d;cases d with|val A=>
  obtain⟨_,p,q,rfl,_⟩:=A;exact .pure (sF i j f) (.int _ _) c
 ·rename_i e;rw[e] at d;cases d;exact .pure (sF i j f) (.int _ _) c
 ·rename_i id t e;rw[e] at d;split at c
  ·rename_i F D l;split at c
   ·rename_i B O;obtain⟨u,m,c⟩:=c;cases d with|ref k n=>
    rw[l] at k;cases k;obtain⟨rfl,G,z,_⟩:=s.ip l m n;obtain⟨p,q,rfl,_⟩:=z;exact .pure (sF i j f) (.int _ _) c
   exact c.elim
  exact c.elim
 ·rename_i id t P M e;rw[e] at d;cases d with
  |jm=>exact .pure (sF i j f) (.int _ _) c
  |view k n=>exact .pure (sF i j f) (.int _ _) c
 ·rename_i id t F V S e;rw[e] at d;split at c
  ·rename_i W D l;obtain⟨u,m,c⟩:=c;cases d with|app k N n x J L v=>
   rw[l] at k;cases k;obtain⟨p,q,r,_⟩:=v;simp only[fd,and_true] at r;have y:=bN.uniq m x;subst y;rw[r] at f;have:=sF (w:=w) i j f;rw[jZ] at this;exact .pure this (.int _ _) c
  exact c.elim
 exact c.elim
def aJ.FB {o:Nat} (a:g<N) (b:i.length=d.size) (e:dt w c (o+g*d.size) i):aJ w (.osl d) v [.slice (some ⟨c,o,none⟩) N P] [.idx g] d (some (c,o+g*d.size)) i:=⟨c,o,N,P,i,rfl,a,b,e,aJ.here⟩
def aJ.AE {o:Nat} (a:i.length=d.size) (b:dt w c o i):aJ w (.optr d) v [.pointer (some ⟨c,o,none⟩)] [.deref] d (some (c,o)) i:=⟨c,o,i,rfl,a,b,aJ.here⟩
def qT (
 tt:List (TypeId×af)) (i:List (Nat×az)) (k:TypeId) (e d:ag):fw:=
 match eA tt k with
 |none=>.bad
 |some g=>match d with
  |.val (.int _) d=>match e with
   |.val (.aV m b) n=>bif aT g b then .part b.den (λh=>aL n d=some h) (λh=>(.val (.ptr m b) (some h),[])) else .bad
   |.ref id c=>match ak i id with
    |some ⟨f,e⟩=>match dn f c with
     |some (.osl b)=>bif aT g b then .part (List b.den×Nat) (λa=>bN f e c (.osl b) a.1/\d=(a.2:Int)/\a.2<a.1.length) (λa=>(.addr id (c++[.idx a.2]),[])) else .bad
     |_=>.bad
    |none=>.bad
   |.view id c j l=>match ak i id with
    |some ⟨f,e⟩=>match dn f c with
     |some (.osl b)=>bif aT g b then .part (List b.den×Nat) (λa=>bN f e c (.osl b) a.1/\d=(a.2:Int)/\a.2<l-j) (λa=>(.addr id (c++[.idx (j+a.2)]),[])) else .bad
     |_=>.bad
    |none=>.bad
   |_=>.bad
  |_=>.bad
def Bi (k:eA E.tt H=some R) (m:aT R d=true) (n:o.op=.indexAddr H h b) {e f:Nat} (q:a.eval h=.slice (some ⟨N,e,none⟩) g f) (l:a.eval b=.int u c) (s:c<g):(execOp a.eval o).run E.P w=.ok (.value (.pointer (some ⟨N,e+c*d.size,none⟩))) w:=by obtain⟨t,r,_,i,j⟩:=eA.ok k;have p:=(j.lay m).sizeOf w;have:(0:Int)<=(c:Int)/\(c:Int)<(g:Int):=⟨U,U⟩;simp[execOp,n,q,l,Instr.indexAt,asIntOf,run_underlying i,this,p,Addr.add_lit];omega
theorem Nm (B:bi C st a.tmps w I rt fp) {z:Operand} (N:o.op=.indexAddr H z b) (c:(qT E.tt st.h H (aI st.g z) (aI st.g b)).K Q):Yields E C st a w I rt fp o Q:=by
 have k:=B.aI z;have M:=B.aI b;unfold qT at c;split at c
 ·exact c.elim
 rename_i V L;generalize O:a.eval z=d7 at k;generalize P:a.eval b=d8 at M;split at c
 case h_2=>exact c.elim
 rename_i ad R a3;rw[a3] at M;cases M with|val T=>
 obtain⟨_,rfl⟩:=T;split at c
 ·rename_i cv f y q;cases d:aT V f with
  |false=>rw[d] at c;exact c.elim
  |true=>
   rw[d] at c;obtain⟨W,co,c⟩:=c;rw[q] at k;cases k with|val T=>
   obtain⟨_,X,Y,rfl,aq,am,S⟩:=T;obtain⟨ai,av,a0⟩:=Fl co;rcases S with rfl|⟨A,u,rfl,bl,v⟩
   ·grind
   obtain⟨F,n,p,D⟩:=v _ _ a0;have ci:a.eval b=.int ad (R.toNat:Nat):=(by rw[P];show Value.int ad R=_;grind);exact .pure (Bi L d N O ci av) (.val (τ:=.ptr cv f) (x:=some W) (cs:=[.pointer (some ⟨A,u+R.toNat*f.size,none⟩)]) ⟨rfl,A,_,F,rfl,bl,n,p,D⟩) c
 ·rename_i id dl q;split at c
  case h_2=>exact c.elim
  rename_i an W j;split at c
  case h_2=>exact c.elim
  rename_i f ce;cases d:aT V f with
  |false=>rw[d] at c;exact c.elim
  |true=>
   rw[d] at c;obtain⟨⟨y,e⟩,⟨r,rfl,l⟩,c⟩:=c;simp only at r l c;rw[q] at k;cases k with|ref t s=>
   rw[j] at t;cases t;obtain⟨rfl,a4,i,_⟩:=B.ip j r s;obtain⟨X,Y,rfl,i⟩:=i;rcases i with⟨_,rfl,_⟩|⟨A,u,G,rfl,_,aq,am,S,v⟩
   ·grind
   obtain⟨F,n,p,D⟩:=v e y[e] (G[e]'(by omega)) ab ab
   exact .pure (Bi L d N O P l) (.addr j (s.append (aJ.FB l n p))) c
 ·rename_i id dl m d1 q;split at c
  case h_2=>exact c.elim
  rename_i an W j;split at c
  case h_2=>exact c.elim
  rename_i f ce;cases d:aT V f with
  |false=>rw[d] at c;exact c.elim
  |true=>
   rw[d] at c;obtain⟨⟨y,e⟩,⟨r,rfl,l⟩,c⟩:=c;simp only at r l c;rw[q] at k;cases k with|jm=>omega|view t s d2 d3 d4=>
   rename_i A u d5 Y;rw[j] at t;cases t;obtain⟨ap,a4,i,_⟩:=B.ip j r s;cases ap;obtain⟨X,d0,Z,i⟩:=i;simp only[fd,Value.slice.injEq,and_true] at Z;obtain⟨rfl,rfl,rfl⟩:=Z;rcases i with⟨J,_⟩|⟨ds,d6,G,J,_,aq,am,S,v⟩
   ·cases J
   cases J;have bs:m+e<y.length:=U;obtain⟨F,n,p,D⟩:=v (m+e) y[m+e] (G[m+e]'(by omega)) ab ab
   have:=Bi (w:=w) L d N O P l;rw[ah U,show u+m*f.size+e*f.size=u+(m+e)*f.size by grind] at this;exact .pure this (.addr j (s.append (aJ.FB bs n p))) c
 exact c.elim
def aG.pure {h:bO->Nat->Prop} {w:World}:∀{τ:af} {i:cI} {e:τ.den} {g:cO},τ.pure=true->aG h w τ i e g->g=[]
 |.int _,_,_,_,_,b=>b.1
 |.bool,_,_,_,_,b=>b.1
 |.str,_,_,_,_,b=>b.1
 |.aV _ _,_,_,_,_,b=>b.1
 |.ptr _ _,_,_,_,_,b=>b.1
 |.nil,_,_,_,_,b=>b.1
 |.st k,_,_,_,c,b=>aG.pure (τ:=k) c b
 |.pr a f,_,_,_,c,b=>by simp only[af.pure,a5] at c;obtain⟨n,f2,rfl,j,d⟩:=b;rw[aG.pure (τ:=a) c.1 j,aG.pure (τ:=f) c.2 d];rfl
 |.osl _,_,_,_,c,_=>by cases c
 |.optr _,_,_,_,c,_=>by cases c
 |.dh _ _,_,e,_,_,b=>by
  cases e with
  |none=>exact b.1
  |some o=>obtain⟨f,m,l,_,d,_⟩:=b;exact d
 |.bP,_,_,_,c,_=>by cases c
def re (d:af) (e:d.den) (id:Nat) (c:List aO) (a:af):fw:=
 bif a.pure then .part a.den (λb=>bN d e c a b) (λb=>(.val a b,[])) else .dc (.ref id c) []
def qY (tt:List (TypeId×af)) (f:List (Nat×az)) (g:TypeId) (c:ag):fw:=
 match ak tt g with
 |none=>.bad
 |some e=>match c with
  |.val (.ptr _ a) (some h)=>bif aT e a then .dc (.val a h) [] else .bad
  |.addr id b=>match ak f id with
   |some ⟨d,c⟩=>match dn d b with
    |some a=>bif aT e a then re d c id b a else .bad
    |none=>.bad
   |none=>.bad
  |.ref id b=>match ak f id with
   |some ⟨d,c⟩=>match dn d b with
    |some (.optr a)=>bif aT e a then re d c id (b++[.deref]) a else .bad
    |_=>.bad
   |none=>.bad
  |_=>.bad
theorem BD (e:ak E.tt H=some R) (j:aT R d=true) (k:o.op=.load H b) (l:a.eval b=.pointer (some ⟨c,g,none⟩)) (f:dt w c g i) (h:i.length=d.size):(execOp a.eval o).run E.P w=.ok (.value (bp d i)) w:=by have:=In ((E.ok H R e).lay j) f h;simp_all [execOp,Instr.loadAt,Instr.sureAddr]
theorem CA (l:bi C st a.tmps w I rt fp) {id:Nat} {k:R.den} (j:ak st.h id=some ⟨R,k⟩) (e:aJ w R none (rt id) m d v i) (f:(execOp a.eval o).run E.P w=.ok (.value (bp d i)) w) (b:(re R k id m d).K Q):Yields E C st a w I rt fp o Q:=by
 unfold re at b;cases c:d.pure with
 |true=>
  rw[c] at b;obtain⟨q,n,b⟩:=b;obtain⟨_,p,g,_⟩:=l.ip j n e;have:=g.pure c;subst this;exact .pure f (.val g) b
 |false=>
  rw[c] at b;exact .pure f (.ref j e) b
theorem N3 (m:bi C st a.tmps w I rt fp) (t:o.op=.load H b) (c:(qY E.tt st.h H (aI st.g b)).K Q):Yields E C st a w I rt fp o Q:=by
 have e:=m.aI b;unfold qY at c;split at c
 ·exact c.elim
 rename_i p s;generalize u:a.eval b=O at e;split at c
 ·rename_i N l x j;cases d:aT p l with
  |false=>rw[d] at c;exact c.elim
  |true=>
   rw[d] at c;rw[j] at e;cases e with|val G=>
   obtain⟨_,y,A,z,rfl,aq,v,D,F⟩:=G;exact .pure (BD s d t u D v) (.val F) c
 ·rename_i id B j;split at c
  case h_2=>exact c.elim
  rename_i J x i;split at c
  case h_2=>exact c.elim
  rename_i l n;cases d:aT p l with
  |false=>rw[d] at c;exact c.elim
  |true=>
   rw[d] at c;rw[j] at e;cases e with|addr k f=>
   rw[i] at k;cases k;have:=f.ty;rw[n] at this;cases this;obtain⟨aq,v⟩:=m.H9 i f;grind [CA,BD]
 ·rename_i id B j;split at c
  case h_2=>exact c.elim
  rename_i J x i;split at c
  case h_2=>exact c.elim
  rename_i l n;cases d:aT p l with
  |false=>rw[d] at c;exact c.elim
  |true=>
   rw[d] at c;rw[j] at e;cases e with|ref k f=>
   rename_i P M L;rw[i] at k;cases k;have:=f.ty;rw[n] at this;cases this;obtain⟨y,A,z,rfl,q,r⟩:=mh (m.tree id _ i).1 f;exact CA m i (f.append (aJ.AE q r)) (BD s d t u r q) c
 exact c.elim
def qO (tt:List (TypeId×af)) (g:List (Nat×az)) (h:TypeId) (k:ag) (c:Nat):fw:=
 match iR tt h with
 |none=>.bad
 |some e=>match k with
  |.val (.ptr i (.st a)) (some l)=>bif aT e a then match nV a l c with
   |some ⟨j,m⟩=>.dc (.val (.ptr i j) (some m)) []
   |none=>.bad
   else .bad
  |.ref id b=>match ak g id with
   |some ⟨f,_⟩=>match dn f b with
    |some (.optr (.st a))=>bif aT e a then match dw a c with
     |some (d,_)=>.dc (.addr id (b++(.deref::.unst::d))) []
     |none=>.bad
     else .bad
    |_=>.bad
   |none=>.bad
  |.addr id b=>match ak g id with
   |some ⟨f,_⟩=>match dn f b with
    |some (.st a)=>bif aT e a then match dw a c with
     |some (d,_)=>.dc (.addr id (b++(.unst::d))) []
     |none=>.bad
     else .bad
    |_=>.bad
   |none=>.bad
  |_=>.bad
theorem AZ {f:af} (l:iR E.tt H=some f) (p:aT f d=true) (s:dw d c=some (m,R)) (q:o.op=.fieldAddr H b c) (t:a.eval b=.pointer (some ⟨g,N,none⟩)):(execOp a.eval o).run E.P w=.ok (.value (.pointer (some ⟨g,N+c9 d c,none⟩))) w:=by obtain⟨i,x,j,k⟩:=iR.ok l;obtain⟨h,v,r,e⟩:=A0 (gm.lay p k) s;have u:R.size≠0:=(by have:=e.pos;omega);have n:i[c]?=some h:=(by grind);simp[execOp,q,t,Instr.fieldAt,run_underlying j,n,Instr.sureAddr,fieldPlace,e.sizeOf,u,Addr.add_lit,r]
theorem MG (G:bi C st a.tmps w I rt fp) (y:o.op=.fieldAddr H b c) (d:(qO E.tt st.h H (aI st.g b) c).K Q):Yields E C st a w I rt fp o Q:=by
 have m:=G.aI b;unfold qO at d;split at d
 ·exact d.elim
 rename_i D v;generalize A:a.eval b=am at m;split at d
 ·rename_i U e N r;cases i:aT D e with
  |false=>rw[i] at d;exact d.elim
  |true=>
   rw[i] at d;simp only[cond_true] at d;split at d
   case h_2=>exact d.elim
   rename_i n Z J;rw[r] at m;cases m with|val X=>
   obtain⟨_,f,j,u,rfl,aq,ad,W,L⟩:=X;obtain⟨t,k⟩:=A3 J;obtain⟨M,Y⟩:=A2 (τ:=e) L J;have S:=L.len;simp only[af.size] at S M Y;exact .pure (AZ v i k y A) (.val (τ:=.ptr U n) (x:=some Z) (cs:=[.pointer (some ⟨f,j+c9 e c,none⟩)]) ⟨rfl,f,_,_,rfl,aq,by grind,W.drop.take,M⟩) d
 ·rename_i id V r;split at d
  case h_2=>exact d.elim
  rename_i O N q;split at d
  case h_2=>exact d.elim
  rename_i e z;cases i:aT D e with
  |false=>rw[i] at d;exact d.elim
  |true=>
   rw[i] at d;simp only[cond_true] at d;split at d
   case h_2=>exact d.elim
   rename_i t n k;rw[r] at m;cases m with|ref s p=>
   rw[q] at s;cases s;have:=p.ty;rw[z] at this;cases this;obtain⟨f,j,u,rfl,P,R⟩:=mh (G.tree id _ q).1 p;rename_i T;have B:aJ w (.optr (.st e)) T [.pointer (some ⟨f,j,none⟩)] (.deref::.unst::t) n (some (f,j+c9 e c)) ((u.drop (c9 e c)).take n.size):=⟨f,j,u,rfl,P,R,aJ.qN (l:=some (f,j)) k⟩;exact .pure (AZ v i k y A) (.addr q (p.append B)) d
 ·rename_i id V r;split at d
  case h_2=>exact d.elim
  rename_i O N q;split at d
  case h_2=>exact d.elim
  rename_i e z;cases i:aT D e with
  |false=>rw[i] at d;exact d.elim
  |true=>
   rw[i] at d;simp only[cond_true] at d;split at d
   case h_2=>exact d.elim
   rename_i t n k;rw[r] at m;cases m with|addr s p=>
   rw[q] at s;cases s;have:=p.ty;rw[z] at this;cases this;rename_i f j F;have B:aJ w (.st e) (some (f,j)) F (.unst::t) n (some (f,j+c9 e c)) ((F.drop (c9 e c)).take n.size):=aJ.qN (l:=some (f,j)) k;exact .pure (AZ v i k y A) (.addr q (p.append B)) d
 exact d.elim
def sv (
 tt:List (TypeId×af)) (i:List (Nat×az)) (h:TypeId) (c:ag) (d:Nat):fw:=
 match iR tt h with
 |none=>.bad
 |some f=>match c with
  |.val (.st a) k=>bif aT f a then match nV a k d with
   |some ⟨b,l⟩=>.dc (.val b l) []
   |none=>.bad
   else .bad
  |.ref id e=>match ak i id with
   |some ⟨g,c⟩=>match dn g e with
    |some (.st a)=>bif aT f a then match dw a d with
     |some (j,b)=>re g c id (e++(.unst::j)) b
     |none=>.bad
     else .bad
    |_=>.bad
   |none=>.bad
  |_=>.bad
theorem E8 {j:af} (q:iR E.tt H=some j) (s:aT j d=true) (u:dw d c=some (m,R)) (t:o.op=.field H b c) (v:a.eval b=bp (.st d) i) (z:c9 d c+R.size<=i.length):(execOp a.eval o).run E.P w=.ok (.value (bp R ((i.drop (c9 d c)).take R.size))) w:=by
 obtain⟨k,D,n,p⟩:=iR.ok q;obtain⟨f,A,h,e⟩:=A0 (gm.lay s p) u;have C:=e.pos;have r:k[c]?=some f:=(by grind);simp only[h8] at h;have x:a.eval b=.agg i.toArray:=v;have y:(part f.type i.toArray f.offset).run E.P w=.ok (bp R ((i.drop (c9 d c)).take R.size)) w:=by
  simp only[part,Sem.run_bind,e.isAgg,Result.andThen_ok,h];cases g:mZ R with
  |true=>
   rw[zf g];simp only[if_true,Sem.run_bind,e.sizeOf,Result.andThen_ok,Sem.run_pure];grind
  |false=>
   have l:=Cg e g;rw[ze g,l];have B:c9 d c<i.length:=U;have:(i.drop (c9 d c)).take 1=[i[c9 d c]]:=(by grind [List.drop_eq_getElem_cons]);simp_all
 simp[execOp,t,x,Instr.field,run_underlying n,r,asAgg,y]
def MI (m:bi C st a.tmps w I rt fp) (u:o.op=.field H b c) (d:(sv E.tt st.h H (aI st.g b) c).K Q):Yields E C st a w I rt fp o Q:=by
 have j:=m.aI b;unfold sv at d;split at d
 ·exact d.elim
 rename_i B s;generalize x:a.eval b=P at j;split at d
 ·rename_i f J l;cases e:aT B f with
  |false=>rw[e] at d;exact d.elim
  |true=>
   rw[e] at d;simp only[cond_true] at d;split at d
   case h_2=>exact d.elim
   rename_i q R t;rw[l] at j;cases j with|val z=>
   obtain⟨A,i⟩:=A3 t;obtain⟨G,O⟩:=A2 (τ:=f) z t;have F:=z.len;simp only[af.size] at F;exact .pure (E8 s e i u x U) (.val G) d
 ·rename_i id M l;split at d
  case h_2=>exact d.elim
  rename_i L J p;split at d
  case h_2=>exact d.elim
  rename_i f D;cases e:aT B f with
  |false=>rw[e] at d;exact d.elim
  |true=>
   rw[e] at d;simp only[cond_true] at d;split at d
   case h_2=>exact d.elim
   rename_i A q i;rw[l] at j;cases j with|ref v n=>
   rename_i S y r;rw[p] at v;cases v;have:=n.ty;rw[D] at this;cases this;obtain⟨aq,N⟩:=m.H9 p n;have k:aJ w (.st f) y r (.unst::A) q (y.map λk=>(k.1,k.2+c9 f c)) ((r.drop (c9 f c)).take q.size):=aJ.qN i;exact CA m p (n.append k) (E8 s e i u x (by rw[aq];exact sw i)) d
 exact d.elim
def q6 (f:List (Nat×az)) (b:ag):fw:=
 match b with
 |.val (.ptr h d) b=>.part d.den (λc=>b=some c) (λc=>(.val (.ptr h d) (some c),[]))
 |.ref id a=>match ak f id with
  |some ⟨i,_⟩=>match dn i a with
   |some (.optr _)=>.dc (.ref id a) []
   |_=>.bad
  |none=>.bad
 |.addr id a=>.dc (.addr id a) []
 |.bZ e g=>.dc (.bZ e g) []
 |_=>.bad
theorem OU (p:bi C st a.tmps w I rt fp) (M:o.op=.nilCheck b) (c:(q6 st.h (aI st.g b)).K Q):Yields E C st a w I rt fp o Q:=by
 have d:=p.aI b;unfold q6 at c;generalize N:a.eval b=F at d;split at c
 ·rename_i u l m e;obtain⟨m,rfl,c⟩:=c;rw[e] at d;cases d with|val D=>
  obtain⟨_,f,k,n,rfl,aq,z,A,B⟩:=D;exact .pure (v:=.pointer (some ⟨f,k,none⟩)) (by simp_all [execOp,bp]) (.val (τ:=.ptr u l) (x:=some m) (cs:=[.pointer (some ⟨f,k,none⟩)]) ⟨rfl,f,k,n,rfl,aq,z,A,B⟩) c
 ·rename_i id y e;split at c
  case h_2=>exact c.elim
  rename_i G m j;split at c
  case h_2=>exact c.elim
  rename_i l t;rw[e] at d;cases d with|ref q i=>
  rw[j] at q;cases q;have:=i.ty;rw[t] at this;cases this;obtain⟨f,k,n,rfl,H,J⟩:=mh (p.tree id _ j).1 i;exact .pure (v:=.pointer (some ⟨f,k,none⟩)) (by simp_all [execOp,bp]) (.ref (τ':=.optr l) j i) c
 ·rename_i id y e;rw[e] at d;cases d with|addr j i=>
  exact .pure (by simp_all [execOp]) (.addr j i) c
 ·rename_i L O e;rw[e] at d;cases d with|bZ s r=>
  exact .pure (by simp_all [execOp]) (.bZ s r) c
 exact c.elim
def oW (d:Option ag) (b a:Nat):Prop:=
 match d with
 |none=>a=b
 |some (.val (.int _) c)=>c=(a:Int)
 |some _=>False
def rl (tt:List (TypeId×af)) (k:List (Nat×az)) (j:TypeId) (d:ag) (g f:Option ag):fw:=
 match eA tt j with
 |none=>.bad
 |some h=>match d with
  |.val (.aV l b) e=>bif aT h b then
   .part cy (λa=>oW g 0 a.1/\oW f e.length a.2/\a.1<=a.2/\a.2<=e.length) (λa=>(.val (.aV l b) ((e.take a.2).drop a.1),[])) else .bad
  |.ref id c=>match ak k id with
   |some ⟨i,d⟩=>match dn i c with
    |some (.osl b)=>bif aT h b then
     .part (List b.den×Nat×Nat) (λa=>bN i d c (.osl b) a.1/\oW g 0 a.2.1/\oW f a.1.length a.2.2/\a.2.1<=a.2.2/\a.2.2<=a.1.length) (λa=>(.view id c a.2.1 a.2.2,[])) else .bad
    |_=>.bad
   |none=>.bad
  |_=>.bad
def Ad (a:Act) (e:cF) (c b:Nat):Prop:=
 match e with
 |none=>b=c
 |some f=>∃d,a.eval f=.int d b
theorem CM (n:eA E.tt H=some R) (q:aT R d=true) {i e:cF} (s:o.op=.slice H b i e none) {f:Nat} (u:a.eval b=.slice r f N) (j:Ad a i 0 g) (h:Ad a e f c) (A:g<=c) (B:c<=N):(execOp a.eval o).run E.P w=.ok (.value (.slice (if N=g then r else r.map (·.add (g*d.size))) (c-g) (N-g))) w:=by
 obtain⟨D,y,_,l,m⟩:=eA.ok n;have t:=(m.lay q).sizeOf w;have ai:(0:Int)<=(c:Int)/\(c:Int)<=(N:Int):=⟨U,U⟩;have z:(0:Int)<=(g:Int)/\(g:Int)<=(c:Int):=⟨U,U⟩;have k:(Instr.sliceBounds true f N (i.map a.eval) (e.map a.eval) none).run E.P w=.ok (g,c,N) w:=by
  cases i with
  |none=>
   obtain rfl:g=0:=j;cases e with
   |none=>obtain rfl:c=f:=h;simp[Instr.sliceBounds]
   |some x=>obtain⟨v,p⟩:=h;simp_all [Instr.sliceBounds,Instr.sliceBound,asIntOf]
  |some G=>
   obtain⟨F,C⟩:=j;cases e with
   |none=>obtain rfl:c=f:=h;simp_all [Instr.sliceBounds,Instr.sliceBound,asIntOf]
   |some x=>
    obtain⟨v,p⟩:=h;simp_all [Instr.sliceBounds,Instr.sliceBound,asIntOf]
 simp[execOp,s,u,Instr.sliceAt,Instr.slice,run_underlying l,k,t]
theorem r1 (h:bi C st a.tmps w I rt fp) {d:cF} (b:oW (d.map (aI st.g)) c N):Ad a d c N:=by
 cases d with
 |none=>exact b
 |some f=>
  have:=h.aI f;simp only[hl,oW] at b;split at b
  ·grind
  ·rename_i j l e;simp only[bH] at e;rw[e] at this;subst b;generalize i:a.eval f=m at this;cases this with|val k=>obtain⟨_,rfl⟩:=k;exact⟨j,i⟩
  grind
theorem SC (e:bi C st a.tmps w I rt fp) {M y:cF} (z:o.op=.slice H b M y none) (c:(rl E.tt st.h H (aI st.g b) (M.map (aI st.g)) (y.map (aI st.g))).K Q):Yields E C st a w I rt fp o Q:=by
 have r:=e.aI b;unfold rl at c;split at c
 ·exact c.elim
 rename_i P v;generalize D:a.eval b=ce at r;split at c
 ·rename_i X i F u;cases f:aT P i with
  |false=>rw[f] at c;exact c.elim
  |true=>
   rw[f] at c;obtain⟨⟨d,m⟩,⟨j,k,l,s⟩,c⟩:=c;simp only at j k l s c;rw[u] at r;cases r with|val ad=>
   obtain⟨_,R,q,rfl,aq,N,O⟩:=ad;have t:=CM (w:=w) v f z D (r1 e j) (r1 e k) l U;have W:((F.take m).drop d).length=m-d:=(by grind);refine .pure t (.val (τ:=.aV X i) (x:=(F.take m).drop d) (cs:=[_]) ⟨rfl,_,q-d,by rw[W],U,?_,?_⟩) c
   ·intro a0;by_cases a3:q=d
    ·omega
    simp_all
   by_cases a4:m=d
   ·grind
   right;rcases O with rfl|⟨p,n,rfl,S,Z⟩
   ·grind
   refine⟨p,n+d*i.size,by rw[ah U];simp[Addr.add_lit],S,λbs am y=>?_⟩;grind
 ·rename_i id Y u;split at c
  case h_2=>exact c.elim
  rename_i an am B;split at c
  case h_2=>exact c.elim
  rename_i i bl;cases f:aT P i with
  |false=>rw[f] at c;exact c.elim
  |true=>
   rw[f] at c;obtain⟨⟨F,d,m⟩,⟨G,j,k,l,s⟩,c⟩:=c;simp only at G j k l s c;rw[u] at r;cases r with|ref L J=>
   rw[B] at L;cases L;obtain⟨rfl,ap,A,_⟩:=e.ip B G J;obtain⟨R,q,rfl,A⟩:=A;rcases A with⟨rfl,rfl,rfl,_⟩|⟨p,n,av,rfl,_,aq,N,O,Z⟩
   ·have T:m=0:=(by grind);subst T;have V:d=0:=U;subst V;exact .pure (CM (w:=w) v f z D (r1 e j) (r1 e k) (a2 _) (a2 _)) (.jm id Y) c
   have t:=CM (w:=w) v f z D (r1 e j) (r1 e k) l U;have:(if q=d then some (⟨p,n,none⟩:Addr) else(some (⟨p,n,none⟩:Addr)).map (·.add (d*i.size)))=some ⟨p,if q=d then n else n+d*i.size,none⟩:=(by grind [Addr.add_lit]);rw[this] at t;exact .pure t (.view B J l s N) c
 exact c.elim
end
end
section
def gr:(i:af)->cI->Option i.den
 |.int d,b=>match b with
  |[.int e n]=>if d=e then some n else none
  |_=>none
 |.bool,b=>match b with
  |[.bool c]=>some c
  |_=>none
 |.str,b=>match b with
  |[.string s]=>some s
  |_=>none
 |.aV _ _,b=>match b with
  |[.slice none 0 0]=>some []
  |_=>none
 |.osl _,b=>match b with
  |[.slice none 0 0]=>some []
  |_=>none
 |.ptr _ _,b=>match b with
  |[.pointer none]=>some none
  |_=>none
 |.st f,b=>gr f b
 |.pr a c,b=>match gr a (b.take a.size),gr c (b.drop a.size) with
  |some g,some h=>some (g,h)
  |_,_=>none
 |.nil,b=>match b with
  |[]=>some ()
  |_=>none
 |.optr _,_=>none
 |.bP,_=>none
 |.mp _,_=>none
 |.dh _ _,_=>none
theorem mR {M:bO->Nat->Prop} {w:World}:∀{τ:af} {d:cI} {c:τ.den},gr τ d=some c->aG M w τ d c []
 |.int j,d,c,b=>by
  simp only[gr] at b;split at b
  ·split at b
   ·rename_i f;cases b;subst f;exact⟨rfl,rfl⟩
   cases b
  cases b
 |.bool,d,c,b=>by simp only[gr] at b;split at b<;>cases b;exact⟨rfl,rfl⟩
 |.str,d,c,b=>by simp only[gr] at b;split at b<;>cases b;exact⟨rfl,rfl⟩
 |.aV _ _,d,c,b=>by simp only[gr] at b;split at b<;>cases b;exact⟨rfl,none,0,rfl,a2 _,λ_=>rfl,.inl rfl⟩
 |.osl _,d,c,b=>by simp only[gr] at b;split at b<;>cases b;exact⟨none,0,rfl,.inl ⟨rfl,rfl,rfl,rfl⟩⟩
 |.ptr _ _,d,c,b=>by simp only[gr] at b;split at b<;>cases b;exact⟨rfl,rfl⟩
 |.st i,d,c,b=>mR (τ:=i) (by simp only[gr] at b;exact b)
 |.pr a e,d,c,b=>by
  simp only[gr] at b;split at b
  ·rename_i c k g h;cases b;exact⟨[],[],rfl,mR (τ:=a) g,mR (τ:=e) h⟩
  cases b
 |.nil,d,c,b=>by simp only[gr] at b;split at b<;>cases b;exact⟨rfl,rfl⟩
 |.optr _,d,c,b=>by simp only[gr] at b;cases b
 |.bP,d,c,b=>by simp only[gr] at b;cases b
 |.mp _,d,c,b=>by simp only[gr] at b;cases b
 |.dh _ _,d,c,b=>by simp only[gr] at b;cases b
def Fb (d:Nat):∀(e:cI) (b:Nat) (c:cG),let h:=(e.zipIdx b).foldl (λc (j:Value×Nat)=>c.setIfInBounds (d+j.2) j.1) c
 h.size=c.size/\(∀a,a<d+b\/d+b+e.length<=a->h[a]?=c[a]?)/\(d+b+e.length<=c.size->∀a f,e[a]?=some f->h[d+b+a]?=some f)
 |[],b,c=>⟨rfl,λ_ _=>rfl,λ_ a f k=>by simp at k⟩
 |x::e,b,c=>by
  obtain⟨l,i,m⟩:=Fb d e (b+1) (c.setIfInBounds (d+b) x);simp only[List.zipIdx_cons,List.foldl_cons];refine⟨by rw[l];simp,λa n=>?_,λo a f g=>?_⟩
  ·simp only[g8] at n;rw[i a U,zF U]
  simp only[g8] at o;cases a with
  |zero=>
   simp only[iF,bH] at g;subst g;rw[lT,i _ U];have:d+b<c.size:=U;simp[this]
  |succ a=>
   simp only[nx] at g;have:=m (by simp;omega) a f g;rwa[(U:d+(b+1)+a=d+b+(a+1))] at this
def u1 (n:Nat->Option cy):∀(m:List (Nat×Value)) (d:cG),(∀a∈m,∃f c,n a.1=some (f,c)/\a.2.cells.size=c/\f+c<=d.size)->(m.Pairwise λa j=>∀o c h k,n a.1=some (o,c)->n j.1=some (h,k)->o+c<=h\/h+k<=o)->∃j,Instr.fill n d m=some j/\j.size=d.size/\(∀b,(∀a∈m,∀o c,n a.1=some (o,c)->b<o\/o+c<=b)->j[b]?=d[b]?)/\(∀a∈m,∀o c,n a.1=some (o,c)->∀b e,a.2.cells[b]?=some e->j[o+b]?=some e)
 |[],d,_,_=>⟨d,rfl,rfl,λ_ _=>rfl,λa g=>by cases g⟩
 |(i,e)::m,d,w,u=>by
  obtain⟨f,c,p,I,N⟩:=w (i,e) ab;simp only at p I;rw[oG] at u;have H:e.cells.zipIdx.foldl (λl (a:Value×Nat)=>l.setIfInBounds (f+a.2) a.1) d=(e.cells.toList.zipIdx 0).foldl (λl (a:Value×Nat)=>l.setIfInBounds (f+a.2) a.1) d:=(by rw[<-Array.foldl_toList,Array.toList_zipIdx]);obtain⟨q,f2,r⟩:=Fb f e.cells.toList 0 d;rw[<-H] at q f2 r;simp only[Array.length_toList] at f2 r;generalize F:e.cells.zipIdx.foldl (λl (a:Value×Nat)=>l.setIfInBounds (f+a.2) a.1) d=v at q f2 r;obtain⟨j,J,K,y,aP⟩:=u1 n m v (λa g=>by
   obtain⟨h,k,B,C,D⟩:=w a (eJ _ g);exact⟨h,k,B,C,by rw[q];exact D⟩) u.2
  refine⟨j,?_,by rw[K,q],λb x=>?_,λa g h k s b z t=>?_⟩
  ·have E:(decide (e.cells.size≠c)||decide (f+e.cells.size>d.size))=false:=(by simp;omega);simp only[Instr.fill,p,E];rw[show(e.cells.zipIdx.foldl (λl L=>match L with|(A,b)=>l.setIfInBounds (f+b) A) d)=v from F];simpa using J
  ·rw[y b (λa g=>x a (eJ _ g)),f2 b (by have:=x (i,e) ab f c p;omega)]
  rcases dk.1 g with rfl|g
  ·simp only at s t;rw[p] at s;cases s;have M:b<e.cells.size:=(lK.1 t).1;rw[y (f+b) (λa g h k G=>by
    have:=u.1 a g f c h k p G;omega)]
   exact r U b z (by simpa using t)
  exact aP a g h k s b z t
section
variable {E:dz} {C:c8} {st:aB} {a:Act} {w:World} {I:Nat->Prop} {rt:Nat->cI} {fp:Nat->cO} {o:Oper} {Q:ag->List (Nat×az)->Prop}
def dt.alloc {w:World} {c:cG} {e:TypeId} {o:Nat} {d:cI} (f:∀a b,d[a]?=some b->c[o+a]?=some b):dt (w.alloc (.cells c e)) w.heap.size o d:=λa b g=>by rw[World.cell?_alloc_new];exact f a b g
def gQ.alloc {w:World} {a:cG} {c:TypeId} {d b:Nat} (e:b<=a.size):gQ (w.alloc (.cells a c)) w.heap.size d b:=λg _ f=>by rw[World.cell?_alloc_new,World.frozen?_alloc_new];exact⟨by simp;omega,rfl⟩
def Yields.new {d:Nat} {t:az} {e:Value} {cs:cI} {f:cO} {cells:cG} {T:TypeId} (l:ak st.h d=none) (g:bi C st a.tmps w I rt fp) (p:(execOp a.eval o).run E.P w=.ok (.value e) (w.alloc (.cells cells T))) (r:e=bp t.1 cs) (q:aG (aY I C.B) (w.alloc (.cells cells T)) t.1 cs t.2 f) (j:∀c∈f,c=w.heap.size) (m:f.Nodup) (n:Q (.ref d []) [(d,t)]):Yields E C st a w I rt fp o Q:=by
 refine⟨e,_,I,λ_=>cs,λ_=>f,.ref d [],[(d,t)],p,.alloc w _,λ_ b=>b,λ_ b=>.inl b,.one l q m (λc i=>?_),?_,n⟩
 ·rw[j c i];exact⟨a2 _,ab,λb=>by have:=g.ib _ (.inl b);omega⟩
 rw[r];have k:ak ([(d,t)]++st.h) d=some t:=(by rw[List.singleton_append,bG,al rfl]);refine .ref (t:=t) (τ':=t.1) (loc:=none) k ?_;have:de [(d,t)] (λ_=>cs) rt d=cs:=(by simp[de,bG]);rw[this];exact aJ.here
def q1 (tt:List (TypeId×af)) (g:List (Nat×af)) (h:List (Nat×az)) (b:Nat) (f:TypeId) (e d:ag):fw:=
 match eA tt f,ak g b,ak h b with
 |some i,some (.osl c),none=>match jo c,e,d with
  |some j,.val (.int _) e,.val (.int _) d=>bif aT i c&&Nat.ble c.size 2000 then
   .part cy (λa=>e=(a.1:Int)/\d=(a.2:Int)/\a.1<=a.2/\a.2<=fh) (λa=>(.ref b [],[(b,⟨.osl c,List.replicate a.1 j⟩)])) else .bad
  |_,_,_=>.bad
 |_,_,_=>.bad
def Of (a:cG) (e c b:Nat) (g:Value) (_hz:0<a.size) (f:a[b]?=some g) (j:c<e):(madeCells a (e*a.size))[c*a.size+b]?=some g:=by have d:b<a.size:=(lK.1 f).1;have h:(c+1)*a.size<=e*a.size:=dG _ j;rw[e2,fG] at h;have i:(c*a.size+b) %a.size=b:=(by rw[Nat.add_comm,Nat.add_mul_mod_self_right,Nat.mod_eq_of_lt d]);simp only[madeCells,Array.getElem?_map,Array.getElem?_range];rw[al U];simp only[hl,i];rw[<-f,getElem!_pos a b d,tl d]
def Oh (t:bi C st a.tmps w I rt fp) {p:Operand} (am:o.op=.makeSlice H p b) (e:(q1 E.tt j st.h c H (aI st.g p) (aI st.g b)).K Q):Yields E C st a w I rt fp o Q:=by
 have v:=t.aI p;have u:=t.aI b;unfold q1 at e;split at e
 case h_2=>exact e.elim
 rename_i co A X ds Z;split at e
 case h_2=>exact e.elim
 rename_i dl bl d3 a4 d2 av O N;cases k:(aT co A&&Nat.ble A.size 2000) with
 |false=>rw[k] at e;exact e.elim
 |true=>
  rw[k] at e;simp only[a5] at k;obtain⟨⟨q,i⟩,⟨rfl,rfl,G,r⟩,e⟩:=e;simp only at G r e;have d0:=eo k.2;rw[O] at v;rw[N] at u;generalize ap:a.eval p=d7 at v;generalize an:a.eval b=d6 at u;cases v with|val ce=>cases u with|val ci=>
  obtain⟨_,rfl⟩:=ce;obtain⟨_,rfl⟩:=ci;obtain⟨a0,D,_,V,W⟩:=eA.ok X;have s:=W.lay k.1;obtain⟨n,m,aq,bs,d4,M⟩:=ry s av;obtain⟨d1,_,z,_⟩:=s.info;have F:=z.info;rw[aq] at F;cases F;have l:m.cells.size=A.size:=(by have:=(M (aY I C.B) w).len;simpa using this);have Y:(n.bytes:Int)*(i:Int)<=281474976710656:=(by have:n.bytes*i<=48000*fh:=hH (by have:=z.bytes;omega) r;have S:((n.bytes*i:Nat):Int)<=281474976710656:=(by unfold fh at this;omega);rwa[mB] at S);have x:=run_make (P:=E.P) w H D n m V aq bs bl a4 (q:Int) (i:Int) U U Y (by unfold fh at r;omega);simp only[du,z.size] at x;rw[<-l] at x;refine .new (d:=c) (cells:=madeCells m.cells (i*m.cells.size)) (T:=D) (cs:=[.slice (some ⟨w.heap.size,0,none⟩) q i]) (f:=[w.heap.size]) Z t ?_ rfl ?_ ab ab e
  ·simp[execOp,am,ap,an,bp,x]
  refine⟨some ⟨w.heap.size,0,none⟩,i,ab,.inr ⟨w.heap.size,0,List.replicate q [],rfl,ab,ab,by simpa using G,gQ.alloc (by rw[size_madeCells,l];omega),λa3 cv R y J=>?_⟩⟩;have L:a3<q:=(by have:=(ec.1 y).1;simpa using this);obtain rfl:dl=cv:=(by rw[lP,al L] at y;exact dp y);obtain rfl:[]=R:=(by rw[lP,al L] at J;exact dp J);refine⟨m.cells.toList,by simpa using l,dt.alloc (λa0 d5 ad=>?_),M _ _⟩;rw[h8,<-l];exact Of _ _ _ _ _ (by rw[l];exact s.pos) (by simpa using ad) U
def rU (tt:List (TypeId×af)) (d:List (Nat×af)) (e:List (Nat×az)) (a:Nat) (c:TypeId):fw:=
 match ak tt c,ak d a,ak e a with
 |some f,some b,none=>match jo b with
  |some g=>bif aT f b then .dc (.ref a []) [(a,⟨.optr b,g⟩)] else .bad
  |none=>.bad
 |_,_,_=>.bad
def Yields.box {g:R.den} {cs:cI} (q:ak st.h c=none) (i:bi C st a.tmps w I rt fp) (_hT:dm E.P R H) (s:(execOp a.eval o).run E.P w=.ok (.value (.pointer (some ⟨w.heap.size,0,none⟩))) (w.alloc (.cells cs.toArray H))) (u:∀l,(∀e b,aY I C.B e b->bB w l b)->aG (aY I C.B) l R cs g []) (r:Q (.ref c []) [(c,⟨.optr R,g⟩)]):Yields E C st a w I rt fp o Q:=by have m:∀e b,aY I C.B e b->bB w (w.alloc (.cells cs.toArray H)) b:=λe b n=>.of_heap ((fu.alloc w _).heap b (i.ib b (kN n)));have k:=u _ m;have j:=k.len;refine .new (d:=c) (t:=⟨.optr R,g⟩) (cs:=[.pointer (some ⟨w.heap.size,0,none⟩)]) (f:=[w.heap.size]) q i s rfl ⟨w.heap.size,0,[],cs,rfl,rfl,j,dt.alloc (λv x p=>by simpa using p),gQ.alloc (by simp[j]),k⟩ ab ab r
def Kg (g:bi C st a.tmps w I rt fp) (l:o.op=.alloc H) (b:(rU E.tt j st.h c H).K Q):Yields E C st a w I rt fp o Q:=by
 unfold rU at b;split at b
 case h_2=>exact b.elim
 rename_i f q i s k;split at b
 case h_2=>exact b.elim
 rename_i x m;cases d:aT f q with
 |false=>rw[d] at b;exact b.elim
 |true=>
  rw[d] at b;have e:=(E.ok H f i).lay d;obtain⟨t,r,aq,n,u,p⟩:=ry e m;refine .box (cs:=r.cells.toList) k g e ?_ (λv _=>p _ _) b;simp[execOp,l,Instr.alloc,zeroValue,typeInfo,aq,n,newVar,newRow]
def tT (tt:List (TypeId×af)) (e:List (Nat×az)) (a:Nat) (d:TypeId) (b:ag):fw:=
 match ak tt d,ak e a with
 |some f,none=>match b with
  |.val c b=>bif aT f c then .dc (.ref a []) [(a,⟨.optr c,b⟩)] else .bad
  |_=>.bad
 |_,_=>.bad
def KN (j:bi C st a.tmps w I rt fp) (t:o.op=.box H b) (d:(tT E.tt st.h c H (aI st.g b)).K Q):Yields E C st a w I rt fp o Q:=by
 have f:=j.aI b;unfold tT at d;split at d
 case h_2=>exact d.elim
 rename_i l r s;split at d
 case h_2=>exact d.elim
 rename_i x A p;cases e:aT l x with
 |false=>rw[e] at d;exact d.elim
 |true=>
  rw[e] at d;rw[p] at f;generalize u:a.eval b=y at f;cases f with|val i=>
  rename_i m;have k:=(E.ok H l r).lay e;refine .box (cs:=m) s j k ?_ (λz q=>i.mono (λv n e=>⟨e,q v n e⟩) ab) d;simp[execOp,t,u,Instr.box,newVar,newRow,mq k i.len i.one]
def coe (a:af) (b:ag):Option a.den:=
 match b with
 |.val d b=>if h:d=a then some (h▸b) else none
 |.bD c=>gr a c.cells.toList
 |_=>none
def tW (a:af):List ag->Option (List a.den)
 |[]=>some []
 |x::c=>match coe a x,tW a c with
  |some d,some b=>some (d::b)
  |_,_=>none
theorem Ak (i:dm E.P d H) {e:Value} (c:bk f w x rt fp L e) {g:d.den} (a:coe d L=some g):aG f w d e.cells.toList g []:=by
 unfold coe at a;split at a
 ·rename_i k j;split at a
  ·rename_i h;subst h;cases a;cases c with|val b=>
   rw[mq i b.len b.one];exact b
  cases a
 ·cases c;exact mR a
 cases a
def ri:List (Nat×Operand)->Nat->Bool
 |[],_=>true
 |q::b,a=>Nat.beq q.1 a&&ri b (a+1)
def r2 (tt:List (TypeId×af)) (g:List (Nat×af)) (i:List (Nat×az)) (h:Operand->ag) (b:Nat) (f:TypeId) (d:Nat) (c:List (Nat×Operand)):fw:=
 match eA tt f,ak i b with
 |some e,none=>
  let a:=match ak g b with|some (.osl a)=>a|_=>e
  bif aT e a&&Nat.ble a.size 2000&&Nat.ble d 1000&&ri c 0&&Nat.beq c.length d then
   match tW a (c.map λj=>h j.2) with
   |some k=>.dc (.ref b []) [(b,⟨.osl a,k⟩)]
   |none=>.bad
  else .bad
 |_,_=>.bad
def Ew {f:af}:∀{e:List ag} {d:List f.den},tW f e=some d->d.length=e.length/\∀(b:Nat) (c:f.den),d[b]?=some c->∃y:ag,e[b]?=some y/\coe f y=some c
 |[],d,a=>by cases a;exact⟨rfl,λb c a=>by simp at a⟩
 |y::e,d,a=>by
  simp only[tW] at a;split at a
  ·rename_i m l k j;cases a;obtain⟨h,i⟩:=Ew j;refine⟨by simp[h],λb c g=>?_⟩;cases b with
   |zero=>simp only[iF,bH] at g;subst g;exact⟨y,rfl,k⟩
   |succ b=>simpa using i b c (by simpa using g)
  cases a
def oi:∀{f:List (Nat×Operand)} {e:Nat},ri f e=true->∀(a:Nat) (c:Nat×Operand),f[a]?=some c->c.1=e+a
 |[],_,_,a,c,b=>by simp at b
 |x::f,e,b,a,c,d=>by
  simp only[ri,a5] at b;cases a with
  |zero=>simp only[iF,bH] at d;subst d;exact dW b.1
  |succ a=>have:=oi b.2 a c (by simpa using d);omega
def KR (G:bi C st a.tmps w I rt fp) (d5:o.op=.buildSlice H c D) (i:(r2 E.tt j st.h (aI st.g) N H c D.toList).K Q):Yields E C st a w I rt fp o Q:=by
 unfold r2 at i;split at i
 case h_2=>exact i.elim
 rename_i a0 dl ds;generalize f0:(match ak j N with|some (.osl e)=>e|_=>a0)=e at i;simp only at i;cases n:(aT a0 e&&Nat.ble e.size 2000&&Nat.ble c 1000&&ri D.toList 0&&Nat.beq D.toList.length c) with
 |false=>rw[n] at i;exact i.elim
 |true=>
  rw[n] at i;simp only[a5] at n;obtain⟨⟨⟨⟨a4,z⟩,A⟩,v⟩,R⟩:=n;have z:=eo z;have A:=eo A;have R:D.toList.length=c:=dW R;simp only[cond_true] at i;split at i
  case h_2=>exact i.elim
  rename_i l el;obtain⟨am,M,_,co,cv⟩:=eA.ok dl;have s:=cv.lay a4;obtain⟨J,fs,an,_⟩:=s.info;have fT:=s.pos;obtain⟨bl,bs⟩:=Ew el;simp only[gR] at bl;have Z:l.length=c:=U;have ft:c*e.size<=16777216:=(by have:c*e.size<=1000*2000:=hH A z;omega);have S:∀(b:Nat) (k:Nat×Operand),D.toList[b]?=some k->∃q:e.den,l[b]?=some q/\aG (aY I C.B) w e (a.eval k.2).cells.toList q []:=(by intro b k p;have d3:b<l.length:=(by have:=(ec.1 p).1;omega);obtain⟨gc,ai,x⟩:=bs b l[b] ab;rw[gn,p] at ai;simp only[hl,bH] at ai;subst ai;exact⟨l[b],ab,Ak s (G.aI k.2) x⟩);obtain⟨ad,d0,d1⟩:∃a3:cG,(c*e.size=0->a3=#[])/\(c*e.size≠0->∃r,(zeroValue M).run E.P w=.ok r w/\a3=r.cells):=by
   by_cases m:c*e.size=0
   ·exact⟨#[],λ_=>rfl,λi=>absurd m i⟩
   obtain⟨r,_,eq⟩:=dm.Be s;exact⟨r.cells,λi=>absurd i m,λ_=>⟨r,by simp[zeroValue,typeInfo,an.info,eq J an.info],rfl⟩⟩
  obtain⟨ap,av,ex,f6,aP⟩:=u1 (λJ=>some (J*e.size,e.size)) (D.toList.map λk=>(k.1,a.eval k.2)) ((Array.range (c*e.size)).map (ad[· %ad.size]!)) (by
   intro k d7;obtain⟨f5,d6,rfl⟩:=c4.1 d7;obtain⟨b,p,rfl⟩:=g9.1 d6;have u:D.toList[b]?=some D.toList[b]:=ab;obtain⟨q,_,y⟩:=S b _ u;have F:=oi v b _ u;have:(b+1)*e.size<=c*e.size:=dG _ U;rw[e2,fG] at this;refine⟨_,_,rfl,by have:=y.len;simpa using this,?_⟩;simp only[Array.size_map,Array.size_range];rw[F,h8];exact this) (by
   rw[hg];intro b L p d4 d3 f3 f7 f4 f8 ai x;simp only[List.getElem_map,bH,e9] at ai x;simp only[gR] at p d4;have ce:=oi v b D.toList[b] ab;have f2:=oi v L D.toList[L] ab;obtain⟨rfl,rfl⟩:=ai;obtain⟨rfl,rfl⟩:=x;left;rw[ce,f2];have:(0+b+1)*e.size<=(0+L)*e.size:=dG _ U;rw[e2,fG] at this;exact this)
  have d8:ap.size=c*e.size:=(by rw[ex];simp);refine .new (d:=N) (t:=⟨.osl e,l⟩) (cells:=ap) (T:=M) (cs:=[.slice (some ⟨w.heap.size,0,none⟩) c c]) (f:=[w.heap.size]) ds G ?_ rfl ?_ ab ab i
  ·have d9:=s.sizeOf w;have fz:¬(16777216<c*e.size):=U;have W:(Array.map (λq=>(q.fst,a.eval q.snd)) D).toList=D.toList.map λk=>(k.1,a.eval k.2):=ab;simp only[execOp,d5,Instr.buildSlice,Sem.run_bind,run_underlying co,Result.andThen_ok,d9];rw[ah U];by_cases m:c*e.size=0
   ·rw[al m];obtain rfl:=d0 m;rw[W];simp only[Sem.run_bind,Sem.run_pure,Result.andThen_ok,av,newRow,newObj];rfl
   rw[ah m];obtain⟨r,em,rfl⟩:=d1 m;rw[W];simp only[Sem.run_bind,Sem.run_pure,Result.andThen_ok,em,av,newRow,newObj];rfl
  refine⟨some ⟨w.heap.size,0,none⟩,c,by rw[Z],.inr ⟨w.heap.size,0,List.replicate c [],rfl,ab,by simp[Z],(by show l.length<=c;omega),gQ.alloc (by rw[d8];omega),λb q ci y V=>?_⟩⟩;have p:b<c:=(by have:b<l.length:=(ec.1 y).1;omega);obtain rfl:[]=ci:=(by rw[lP,al p] at V;exact dp V);have u:D.toList[b]?=some (D.toList[b]'(by omega)):=by simp
  obtain⟨f9,Y,X⟩:=S b _ u;rw[y] at Y;obtain rfl:=dp Y;refine⟨_,X.len,dt.alloc (λam fn d2=>?_),X.mono (λf1 O n=>⟨n,.of_heap ((fu.alloc w _).heap O (G.ib O (kN n)))⟩) ab⟩;have:=aP (D.toList[b].1,a.eval D.toList[b].2) (c4.2 ⟨D.toList[b],dj _,rfl⟩) _ _ rfl am fn (by simpa using d2);have F:=oi v b _ u;rw[F,h8] at this;simpa using this
end
end
section
def jk (a:List (Nat×Operand)) (b:Nat):cF:=ak a b
def m1 (
 g:Operand->ag) (e:List (Nat×Operand)):af->Nat->Option az
 |.pr a h,d=>
  match(match jk e d with
   |none=>match jo a with
    |some j=>some (⟨a,j⟩:az)
    |none=>none
   |some c=>match g c with
    |.val f b=>bif aT a f then some ⟨f,b⟩ else none
    |.bD i=>match gr a i.cells.toList with
     |some b=>some ⟨a,b⟩
     |none=>none
    |_=>none),m1 g e h (d+1) with
  |some c,some b=>some ⟨.pr c.1 b.1,(c.2,b.2)⟩
  |_,_=>none
 |.nil,_=>some ⟨.nil,()⟩
 |_,_=>none
def jF:List (Nat×Operand)->Nat->Bool
 |[],_=>true
 |q::b,a=>Nat.ble a q.1&&jF b (q.1+1)
def ek:af->Nat
 |.pr _ a=>ek a+1
 |_=>0
def Bj:∀{e:List (Nat×Operand)} {d:Nat},jF e d=true->∀b∈e,d<=b.1
 |[],_,_,b,a=>by cases a
 |x::e,d,a,b,c=>by
  simp only[jF,a5] at a;rcases dk.1 c with rfl|c
  ·exact eo a.1
  have:=Bj a.2 b c;have:=eo a.1;omega
def Bl:∀{b:List (Nat×Operand)} {d:Nat},jF b d=true->b.Pairwise λc f=>c.1<f.1
 |[],_,_=>List.Pairwise.nil
 |x::b,d,a=>by simp only[jF,a5] at a;exact List.Pairwise.cons (λc e=>by have:=Bj a.2 c e;omega) (Bl a.2)
def vd {e:Type}:∀{d:List (Nat×e)} {b:Nat} {c:e},ak d b=some c->(b,c)∈d
 |[],_,_,a=>by cases a
 |(g,v0)::r,b,c,a=>by
  rw[bG] at a;split at a
  ·rename_i f;subst f;cases a;simp
  exact eJ _ (vd a)
def BC {g:Type}:∀{e:List (Nat×g)} {d:Nat},ak e d=none->∀c∈e,c.1≠d
 |[],_,_,c,a=>by cases a
 |(h,v0)::r,d,b,c,a=>by
  rw[bG] at b;split at b
  ·cases b
  rename_i f;rcases dk.1 a with rfl|a
  ·exact f
  exact BC b c a
def n8 {j:Program}:∀{u:af} {l:List Field} {e:Nat} {h:cI},gm j u l e h->∀d,d<ek u->∃f g,dw u d=some (f,g)
 |.pr a i,k::n,e,h,c,0,_=>⟨_,_,rfl⟩
 |.pr a i,k::n,e,h,c,d+1,b=>by obtain⟨f,g,m⟩:=n8 (u:=i) c.2.2.2.2 d (by simp only[ek] at b;omega);exact⟨.snd::f,g,by simp[dw,m]⟩
 |.pr _ _,[],_,_,c,_,_=>c.elim
 |.int _,_,_,_,_,_,b=>by simp[ek] at b
 |.bool,_,_,_,_,_,b=>by simp[ek] at b
 |.str,_,_,_,_,_,b=>by simp[ek] at b
 |.aV _ _,_,_,_,_,_,b=>by simp[ek] at b
 |.osl _,_,_,_,_,_,b=>by simp[ek] at b
 |.ptr _ _,_,_,_,_,_,b=>by simp[ek] at b
 |.optr _,_,_,_,_,_,b=>by simp[ek] at b
 |.st _,_,_,_,_,_,b=>by simp[ek] at b
 |.nil,_,_,_,_,_,b=>by simp[ek] at b
 |.bP,_,_,_,_,_,b=>by simp[ek] at b
def qP:∀{u:af} {e d:Nat} {s s':List aO} {t t':af},dw u e=some (s,t)->dw u d=some (s',t')->e<d->c9 u e+t.size<=c9 u d
 |.pr a f,0,d+1,s,s',t,t',b,c,_=>by simp only[dw,bH,e9] at b;obtain⟨_,rfl⟩:=b;simp[c9]
 |.pr a f,e+1,d+1,s,s',t,t',b,c,k=>by
  simp only[dw] at b c;cases g:dw f e with
  |none=>rw[g] at b;cases b
  |some i=>
   cases h:dw f d with
   |none=>rw[h] at c;cases c
   |some j=>
    rw[g] at b;rw[h] at c;simp only[bH,e9] at b c;obtain⟨_,rfl⟩:=b;obtain⟨_,rfl⟩:=c;have:=qP (u:=f) (s:=i.1) (t:=i.2) (s':=j.1) (t':=j.2) g h U;simp only[c9];omega
 |.int _,_,_,_,_,_,_,b,_,_=>by cases b
 |.bool,_,_,_,_,_,_,b,_,_=>by cases b
 |.str,_,_,_,_,_,_,b,_,_=>by cases b
 |.aV _ _,_,_,_,_,_,_,b,_,_=>by cases b
 |.osl _,_,_,_,_,_,_,b,_,_=>by cases b
 |.ptr _ _,_,_,_,_,_,_,b,_,_=>by cases b
 |.optr _,_,_,_,_,_,_,b,_,_=>by cases b
 |.st _,_,_,_,_,_,_,b,_,_=>by cases b
 |.nil,_,_,_,_,_,_,b,_,_=>by cases b
 |.bP,_,_,_,_,_,_,b,_,_=>by cases b
def A1:∀{u:af} {c:Nat} {s:List aO} {t:af},dw u c=some (s,t)->c<ek u
 |.pr a d,0,_,_,_=>by simp[ek]
 |.pr a d,c+1,s,t,b=>by
  simp only[dw] at b;split at b
  ·rename_i e f;have:=A1 (u:=d) (s:=e.1) (t:=e.2) f;simp only[ek];omega
  cases b
 |.int _,_,_,_,b=>by cases b
 |.bool,_,_,_,b=>by cases b
 |.str,_,_,_,b=>by cases b
 |.aV _ _,_,_,_,b=>by cases b
 |.osl _,_,_,_,b=>by cases b
 |.ptr _ _,_,_,_,b=>by cases b
 |.optr _,_,_,_,b=>by cases b
 |.st _,_,_,_,b=>by cases b
 |.nil,_,_,_,b=>by cases b
 |.bP,_,_,_,b=>by cases b
theorem Bk:∀{d:List (Nat×Operand)} {e:Nat} {b:Nat×Operand},jF d e=true->b∈d->jk d b.1=some b.2
 |[],_,_,_,a=>by cases a
 |x::d,e,b,a,c=>by
  simp only[jF,a5] at a;obtain⟨f,g⟩:=x;unfold jk;rw[bG];rcases dk.1 c with rfl|c
  ·rw[al rfl]
  have:=Bj a.2 b c;simp only at this;rw[ah U];exact Bk a.2 c
section
variable {E:dz} {C:c8} {st:aB} {a:Act} {w:World} {I:Nat->Prop} {rt:Nat->cI} {fp:Nat->cO} {o:Oper} {Q:ag->List (Nat×az)->Prop}
def tS (tt:List (TypeId×af)) (e:Operand->ag) (d:TypeId) (a:List (Nat×Operand)):fw:=
 match iR tt d with
 |none=>.bad
 |some c=>bif jF a 0&&a.all (λf=>Nat.blt f.1 (ek c)) then match m1 e a c 0 with
  |some b=>.dc (.val (.st b.1) b.2) []
  |none=>.bad
  else .bad
def Gi {G:Program} {k:bO->Nat->Prop} {b:List (Nat×az)} {z:Operand->ag} {j:Operand->Value} (C:∀e,bk k w b rt fp (z e) (j e)) {parts:List (Nat×Operand)} {cells:cI}:∀{u:af} {n:Nat} {H:List Field} {off:Nat} {zs:cI} {i:az},gm G u H off zs->m1 z parts u n=some i->cells.length=off+u.size->(∀d y f,dw u d=some (y,f)->(∀e,jk parts (n+d)=some e->(j e).cells.size=f.size/\(cells.drop (off+c9 u d)).take f.size=(j e).cells.toList)/\(jk parts (n+d)=none->(cells.drop (off+c9 u d)).take f.size=(zs.drop (c9 u d)).take f.size))->aG k w i.1 (cells.drop off) i.2 []/\i.1.size=u.size
 |.pr a o,n,T::ad,off,zs,i,B,h,t,r=>by
  simp only[m1] at h;split at h
  case h_2=>cases h
  rename_i e an c M;cases h;obtain⟨V,A,W,⟨X,ap,aq,P,Q⟩,I⟩:=B;have s:=r 0 _ a rfl;simp only[lT,c9,mF] at s;have q:aG k w e.1 ((cells.drop off).take a.size) e.2 []/\e.1.size=a.size:=by
   split at c
   ·rename_i v;split at c
    ·rename_i av O;cases c;obtain⟨Y,a0,E,F,_,aP⟩:=ry A O;rw[aq] at E;cases E;rw[P] at F;cases F;rw[s.2 v,Q];exact⟨aP k w,rfl⟩
    cases c
   rename_i m v;have g:=C m;obtain⟨Z,D⟩:=s.1 m v;split at c
   ·rename_i f S p;cases l:aT a f with
    |false=>rw[l] at c;cases c
    |true=>
     rw[l] at c;cases c;rw[p] at g;rw[D];generalize L:j m=R at g;cases g with|val x=>
     rw[mq (A.lay l) x.len x.one];exact⟨x,(aT.size l).symm⟩
   ·rename_i R p;split at c
    ·rename_i S N;cases c;rw[p] at g;rw[D];generalize L:j m=am at g;cases g;exact⟨mR N,rfl⟩
    cases c
   cases c
  have J:=Gi C (parts:=parts) (cells:=cells) (u:=o) (n:=n+1) (off:=off+a.size) (zs:=zs.drop a.size) I M (by rw[t];simp only[af.size];omega) (by
   intro d y f K;have:=r (d+1) (.snd::y) f (by simp[dw,K]);simp only[c9] at this;rw[(U:n+(d+1)=n+1+d),(U:off+(a.size+c9 o d)=off+a.size+c9 o d)] at this;rw[oD];exact this)
  refine⟨⟨[],[],rfl,?_,?_⟩,by simp only[af.size];omega⟩
  ·rw[q.2];exact q.1
  rw[q.2,oD];exact J.1
 |.nil,n,[],off,zs,i,B,h,t,r=>by cases h;exact⟨⟨rfl,by rw[List.drop_eq_nil_iff];simp only[af.size] at t;omega⟩,rfl⟩
 |.pr _ _,_,[],_,_,_,b,_,_,_=>b.elim
 |.nil,_,_::_,_,_,_,b,_,_,_=>b.elim
 |.int _,_,_,_,_,_,b,_,_,_=>by cases b
 |.bool,_,_,_,_,_,b,_,_,_=>by cases b
 |.str,_,_,_,_,_,b,_,_,_=>by cases b
 |.aV _ _,_,_,_,_,_,b,_,_,_=>by cases b
 |.osl _,_,_,_,_,_,b,_,_,_=>by cases b
 |.ptr _ _,_,_,_,_,_,b,_,_,_=>by cases b
 |.optr _,_,_,_,_,_,b,_,_,_=>by cases b
 |.st _,_,_,_,_,_,b,_,_,_=>by cases b
 |.bP,_,_,_,_,_,b,_,_,_=>by cases b
def Gj {A:Program} {o:bO->Nat->Prop} {b:List (Nat×az)} {p:Operand->ag} {i:Operand->Value} (q:∀c,bk o w b rt fp (p c) (i c)) {t:List (Nat×Operand)}:∀{u:af} {n:Nat} {C:List Field} {s:Nat} {z:cI} {y:az},gm A u C s z->m1 p t u n=some y->∀f x h,dw u f=some (x,h)->∀c,jk t (n+f)=some c->(i c).cells.size=h.size
 |.pr a B,n,N::T,s,z,y,F,l,f,x,h,d,c,r=>by
  simp only[m1] at l;split at l
  case h_2=>cases l
  rename_i W X e I;obtain⟨O,D,P,⟨Q,Y,aq,R,S⟩,E⟩:=F;cases f with
  |zero=>
   simp only[dw,bH,e9] at d;obtain⟨_,rfl⟩:=d;rw[lT] at r;rw[r] at e;have g:=q c;simp only at e;split at e
   ·rename_i h L j;cases k:aT a h with
    |false=>rw[k] at e;cases e
    |true=>
     rw[j] at g;generalize H:i c=K at g;cases g with|val m=>
     rw[mq (D.lay k) m.len m.one];have:=m.len;have:=aT.size k;simp;omega
   ·rename_i K j;split at e
    ·rename_i L J;rw[j] at g;generalize H:i c=V at g;cases g;have:=(mR (M:=o) (w:=w) J).len;simpa using this
    cases e
   cases e
  |succ f=>
   simp only[dw] at d;split at d
   ·rename_i v G;simp only[bH,e9] at d;obtain⟨_,rfl⟩:=d;exact Gj q (u:=B) (n:=n+1) E I f v.1 v.2 G c (by rwa[(U:n+1+f=n+(f+1))])
   cases d
 |.pr _ _,_,[],_,_,_,b,_,_,_,_,_,_,_=>b.elim
 |.nil,_,_,_,_,_,_,_,_,_,_,d,_,_=>by cases d
 |.int _,_,_,_,_,_,b,_,_,_,_,_,_,_=>by cases b
 |.bool,_,_,_,_,_,b,_,_,_,_,_,_,_=>by cases b
 |.str,_,_,_,_,_,b,_,_,_,_,_,_,_=>by cases b
 |.aV _ _,_,_,_,_,_,b,_,_,_,_,_,_,_=>by cases b
 |.osl _,_,_,_,_,_,b,_,_,_,_,_,_,_=>by cases b
 |.ptr _ _,_,_,_,_,_,b,_,_,_,_,_,_,_=>by cases b
 |.optr _,_,_,_,_,_,b,_,_,_,_,_,_,_=>by cases b
 |.st _,_,_,_,_,_,b,_,_,_,_,_,_,_=>by cases b
 |.bP,_,_,_,_,_,b,_,_,_,_,_,_,_=>by cases b
def run_places {P:Program} (w:World):∀(e:af) (i:List Field) (d:Nat) (g:cI),gm P e i d g->(i.mapM λf=>do Pure.pure (f.offset,<-sizeOf f.type):Sem cQ).run P w=.ok ((List.range (ek e)).map λc=>(d+c9 e c,match dw e c with|some k=>k.2.size|none=>0)) w
 |.pr a h,f::l,d,g,b=>by have j:=run_places w h l (d+a.size) (g.drop a.size) b.2.2.2.2;simp only[List.mapM_cons,Sem.run_bind,b.2.1.sizeOf,Result.andThen_ok,Sem.run_pure,j];simp only[ek,List.range_succ_eq_map,eH,qb,b.1,c9,lT,dw];congr 2;apply ht;intro c _;simp only[Function.comp,c9,dw];rw[Nat.add_assoc];cases dw h c<;>rfl
 |.nil,[],_,_,_=>rfl
 |.pr _ _,[],_,_,b=>b.elim
 |.nil,_::_,_,_,b=>b.elim
 |.int _,_,_,_,b=>by cases b
 |.bool,_,_,_,b=>by cases b
 |.str,_,_,_,b=>by cases b
 |.aV _ _,_,_,_,b=>by cases b
 |.osl _,_,_,_,b=>by cases b
 |.ptr _ _,_,_,_,b=>by cases b
 |.optr _,_,_,_,b=>by cases b
 |.st _,_,_,_,b=>by cases b
 |.bP,_,_,_,b=>by cases b
def KK (an:bi C st a.tmps w I rt fp) (ds:o.op=.build H D) (f:(tS E.tt (aI st.g) H D.toList).K Q):Yields E C st a w I rt fp o Q:=by
 unfold tS at f;split at f
 ·exact f.elim
 rename_i b J;cases q:(jF D.toList 0&&D.toList.all (λc=>Nat.blt c.1 (ek b))) with
 |false=>rw[q] at f;exact f.elim
 |true=>
  rw[q] at f;simp only[a5,ew] at q;obtain⟨X,G⟩:=q;simp only[cond_true] at f;split at f
  case h_2=>exact f.elim
  rename_i fs ap;obtain⟨l,m,i,a3,fT,a4,bl,p,am⟩:∃l m i,E.P.info? H=some l/\l.size=b.size/\l.zero=some (.agg i)/\E.P.underlying H=some (.struct m)/\gm E.P b m.toList 0 i.toList/\i.size=b.size:=by
   unfold iR at J;split at J
   ·rename_i f6 ce;cases J;obtain⟨_,l,m,i,aq,d5,_,d6,d7,d8,d9⟩:=E.ok H _ ce;exact⟨l,m,i,aq,d5,d6,d7,d8,d9⟩
   cases J
  have S:=Gj (λe=>an.aI e) p ap;have R:=run_places (P:=E.P) w b m.toList 0 i.toList p;simp only[h8] at R S;generalize d1:((List.range (ek b)).map λj=>(c9 b j,match dw b j with|some c=>c.2.size|none=>0))=V at R;have y:∀j F k,dw b j=some (F,k)->j<ek b->V.toArray[j]?=some (c9 b j,k.size):=(by intro j F k d cv;rw[<-d1];simp[cv,d]);obtain⟨N,el,em,eq,aP⟩:=u1 (λl=>V.toArray[l]?) (D.toList.map λc=>(c.1,a.eval c.2)) i (by
   intro c z;obtain⟨h,x,rfl⟩:=c4.1 z;have t:h.1<ek b:=eo (G h x);obtain⟨F,k,d⟩:=n8 p h.1 t;refine⟨_,_,y _ _ _ d t,S _ _ _ d h.2 ?_,by rw[am];exact sw d⟩;exact Bk X x) (by
   rw[tC];refine(Bl X).imp_of_mem ?_;intro c W z d3 t d4 ex f2 f3 ai Y;have B:c.1<ek b:=eo (G c z);have a0:W.1<ek b:=eo (G W d3);obtain⟨fn,ft,r⟩:=n8 p c.1 B;obtain⟨f4,f5,q⟩:=n8 p W.1 a0;rw[y _ _ _ r B] at ai;rw[y _ _ _ q a0] at Y;cases ai;cases Y;exact .inl (qP r q t))
  have f1:N.toList.length=b.size:=(by simp[em,am]);obtain⟨ad,fz⟩:=Gi (w:=w) (λe=>an.aI e) (parts:=D.toList) (cells:=N.toList) (u:=b) (n:=0) (off:=0) p ap U (by
   intro M F k d;have ci:M<ek b:=A1 d;simp only[h8];have f0:=sw d;refine⟨λe L=>?_,λL=>?_⟩
   ·have co:=vd L;have T:=S M F k d e L;refine⟨T,?_⟩;apply h4;intro A;rcases bj A k.size with s|s
    ·obtain⟨O,av⟩:∃O,(a.eval e).cells[A]?=some O:=⟨_,tl U⟩;have:=aP (M,a.eval e) (c4.2 ⟨(M,e),co,rfl⟩) _ _ (y _ _ _ d ci) A O av;rw[ks s,jX];simp only[tn];rw[this,av]
    rw[hD (by simp;omega),hD (by simp;omega)]
   apply h4;intro A;rcases bj A k.size with s|s
   ·rw[ks s,ks s,jX,jX];simp only[tn];refine eq _ ?_;intro c z d4 ex ai;obtain⟨h,x,rfl⟩:=c4.1 z;have dl:=BC L h x;have B:h.1<ek b:=eo (G h x);obtain⟨fn,ft,r⟩:=n8 p h.1 B;rw[y _ _ _ r B] at ai;cases ai;rcases Nat.lt_or_gt_of_ne dl with t|bs
    ·have:=qP r d t;omega
    have:=qP d r bs;omega
   rw[hD (by simp;omega),hD (by simp;omega)])
  rw[mF] at ad;refine .pure (v:=.agg N) ?_ (.val (τ:=.st fs.1) (cs:=N.toList) ad) f;have d2:(Array.map (λe=>(e.fst,a.eval e.snd)) D).toList=D.toList.map λc=>(c.1,a.eval c.2):=ab;have d0:(m.mapM λZ=>do Pure.pure (Z.offset,<-sizeOf Z.type):Sem (Array cy)).run E.P w=.ok V.toArray w:=(by rw[Array.mapM_eq_mapM_toList,Sem.run_map,R];rfl);have T:(zeroValue H).run E.P w=.ok (.agg i) w:=(by simp[zeroValue,typeInfo,a3,a4]);simp only[execOp,ds,Instr.build,Sem.run_bind,T,run_underlying bl,Result.andThen_ok,d0,d2,Value.cells,el];rfl
end
end
section
def dK {α:Type}:List (Int×α)->Int->Option α
 |[],_=>none
 |(a,v)::r,k=>if a=k then some v else dK r k
def gh {α:Type}:List (Int×α)->Int->α->List (Int×α)
 |[],k,v=>[(k,v)]
 |(a,u)::r,k,v=>if k<a then(k,v)::(a,u)::r else if k=a then(k,v)::r else(a,u)::gh r k v
def gN {α:Type} (l:List (Int×α)) (a:Int):List (Int×α):=l.filter λb=>decide (b.1≠a)
def hB {α:Type} (b:Option (List (Int×α)×Nat)) (a:Int):Option α:=b.bind λc=>dK c.1 a
def sK {α:Type} (a:Option (List (Int×α)×Nat)):Int:=match a with|some b=>(b.1.length:Int)|none=>0
section
variable {α:Type}
theorem yM:∀{l:List (Int×α)} {c:Int} {d:α},dK l c=some d->(c,d)∈l
 |[],_,_,b=>by cases b
 |(a,u)::r,c,d,b=>by
  simp only[dK] at b;split at b
  ·grind
  exact eJ _ (yM b)
theorem F6:∀{l:List (Int×α)} {c:Int},dK l c=none->∀d,(c,d)∉l
 |[],_,_,_=>by simp
 |(a,u)::r,c,b,d=>by
  simp only[dK] at b;split at b
  ·cases b
  rename_i g;intro f;rcases dk.1 f with e|e
  ·grind
  exact F6 b d e
theorem IA {l:List (Int×α)} (c:l.Pairwise (λa b=>a.1<b.1)):(l.map (·.1)).Nodup:=by grind
theorem Oe {l:List (Int×α)} (b:(l.map (·.1)).Nodup) {a:α}:dK l S=some a↔(S,a)∈l:=by
 constructor
 ·exact yM
 intro c
 induction l with
 |nil=>cases c
 |cons d g f=>
  obtain⟨e,h⟩:=d;simp only[eH,h7] at b;simp only[dK];grind
theorem F7:∀{l:List (Int×α)} {d:Int} {e:α} {c:Int×α},c∈gh l d e->c=(d,e)\/c∈l
 |[],d,e,c,b=>by grind [gh]
 |(a,u)::r,d,e,c,b=>by
  simp only[gh] at b;split at b
  ·grind
  split at b
  ·grind
  rcases dk.1 b with b|b
  ·grind
  exact(F7 b).imp id (eJ _)
theorem BH:∀{l:List (Int×α)} {c:Int} {d:α},l.Pairwise (λa b=>a.1<b.1)->(gh l c d).Pairwise (λa b=>a.1<b.1)
 |[],c,d,_=>by simp[gh]
 |(a,u)::r,c,d,h=>by
  rw[oG] at h;simp only[gh];split
  ·grind [List.pairwise_cons]
  rename_i g;split
  ·grind [List.pairwise_cons]
  rename_i f;rw[oG];refine⟨λi e=>?_,BH h.2⟩;rcases F7 e with rfl|e
  ·omega
  grind
def Oc {l:List (Int×α)} (c:l.Pairwise (λa b=>a.1<b.1)):(gN l S).Pairwise (λa b=>a.1<b.1):=c.filter _
theorem BG:∀{l:List (Int×α)} {k:Int} {v:α},l.Pairwise (λa b=>a.1<b.1)->(gh l k v).Perm ((k,v)::gN l k)
 |[],k,v,_=>by simp[gh,gN]
 |(a,u)::r,k,v,h=>by
  rw[oG] at h;simp only[gh];split
  ·rename_i d;have:gN ((a,u)::r) k=(a,u)::r:=by
    unfold gN;grind [List.filter_eq_self]
   rw[this]
  rename_i d;split
  ·rename_i c;subst c;have:gN ((k,u)::r) k=r:=by
    unfold gN;rw[k8,ah ab,lN];grind
   rw[this]
  rename_i c;have:gN ((a,u)::r) k=(a,u)::gN r k:=(by unfold gN;grind);rw[this];exact((BG h.2).cons _).trans (.swap _ _ _)
end
section
variable {P:Program} {w:World} {b:Nat} {c7:Array MapEntry} {c:Nat}
theorem kM:gx w b=some (c7,c)↔w.heap[b]?=some (.map c7 c):=by grind [gx]
def nb (a:w.heap[b]?=some (.map c7 c)):(setObj b (.map t g)).run P w=.ok () {w with heap:=w.heap.setIfInBounds b (.map t g)}:=by simp[setObj,Sem.run,a]
def run_getObj_map (a:w.heap[b]?=some (.map c7 c)):(getObj b).run P w=.ok (.map c7 c) w:=by simp[getObj,Sem.run,a]
theorem E5 {j:IntKind} (b:Int):∀(c7:List MapEntry) (c:cP) (d:Nat),c7.map (·.key)=c.map (Value.int .i64)->b∉c->Instr.findNow (.int j) (.int .i64 b) c7 d=some none
 |[],_,_,_,_=>rfl
 |e::c7,[],_,a,_=>by cases a
 |e::c7,f::c,d,a,h=>by simp only[eH,fd] at a;have i:(b==f)=false:=(by grind);simp only[Instr.findNow,a.1,Instr.sameNow,if_true,i];exact E5 b c7 c (d+1) a.2 (λg=>h (eJ _ g))
theorem E6 {kd:IntKind} (b:Int):∀(c7:List MapEntry) (d:cP) (f:Nat),c7.map (·.key)=d.map (Value.int .i64)->b∈d->∃c e,d[c]?=some b/\c7[c]?=some e/\Instr.findNow (.int kd) (.int .i64 b) c7 f=some (some (f+c,e.val))
 |[],[],_,_,a=>by cases a
 |[],_::_,_,a,_=>by cases a
 |e::c7,[],_,a,_=>by cases a
 |e::c7,g::d,f,a,m=>by
  simp only[eH,fd] at a;by_cases h:b=g
  ·subst h;refine⟨0,e,rfl,rfl,?_⟩;simp_all [if_true,beq_self_eq_true,Instr.findNow,Instr.sameNow]
  have n:(b==g)=false:=(by grind);obtain⟨c,i,j,k,l⟩:=E6 b c7 d (f+1) a.2 ((dk.1 m).resolve_left h);refine⟨c+1,i,by simpa using j,by simpa using k,?_⟩;simp only[Instr.findNow,a.1,Instr.sameNow,if_true,n];rw[l];grind
structure eW (M:bO->Nat->Prop) (w:World) (t:af) (b:Nat) (l:List (Int×t.den)) (c:Nat) (c7:Array MapEntry) (L:List (Int×Nat×t.den)):Prop where
 me:hF L l c
 h:w.heap[b]?=some (.map c7 c)
 n:c7.size=L.length
 e:∀(i:Nat) (q:Int×Nat×t.den),L[i]?=some q->∃ds:cI,ds.length=t.size/\c7[i]?=some (MapEntry.mk (.int .i64 q.1) (bp t ds) q.2.1)/\aG M w t ds q.2.2 []
variable {M:bO->Nat->Prop} {t:af} {l:List (Int×t.den)} {L:List (Int×Nat×t.den)}
theorem eW.keys (f:eW M w t b l c c7 L):c7.toList.map (·.key)=(L.map (·.1)).map (Value.int .i64):=by
 apply h4;intro d;simp only[gn,tn];rcases bj d L.length with a|a
 ·obtain⟨g,_,h,_⟩:=f.e d L[d] (bA a);grind
 rw[hD a,Array.getElem?_eq_none (by rw[f.n];exact a)];rfl
def hF.keys {α:Type} {L:List (Int×Nat×α)} {l:List (Int×α)} {c:Nat} (a:hF L l c):(L.map (·.1)).Perm (l.map (·.1)):=by have:=a.2.1.map (·.1);rwa[qb] at this
def hF.sQ {α:Type} {L:List (Int×Nat×α)} {l:List (Int×α)} {c:Nat} (a:hF L l c):(L.map (·.1)).Nodup:=a.keys.nodup_iff.2 (IA a.1)
def hF.mem {α:Type} {L:List (Int×Nat×α)} {l:List (Int×α)} {c:Nat} (b:hF L l c) {a:Int×Nat×α} (d:a∈L):dK l a.1=some a.2.2:=
 (Oe (IA b.1)).2 (b.2.1.mem_iff.1 (c4.2 ⟨a,d,rfl⟩))
theorem hF.len {α:Type} {L:List (Int×Nat×α)} {l:List (Int×α)} {c:Nat} (a:hF L l c):L.length=l.length:=by have:=a.2.1.length_eq;grind
theorem CF {P:Program} {w:World} (d:P.underlying a=some (.int u)) {c7:List MapEntry} {b:Option (Nat×Value)} (c:Instr.findNow (.int u) (.int .i64 S) c7 0=some b):(Instr.findKey a (.int .i64 S) c7).run P w=.ok b w:=by simp_all [Sem.run_bind,run_underlying,Result.andThen_ok,Instr.findKey]
def lB {P:Program} {w:World} (c:P.underlying a=some (.int u)) (b:Bool) (e:Nat) (d:Int):(Instr.checkKey b (e+1) a (.int .i64 d)).run P w=.ok () w:=by simp[Instr.checkKey,Sem.run_bind,run_underlying c]
theorem eW.find (j:eW M w t b l c c7 L) (v:P.underlying a=some (.int u)) (d:Int):(dK l d=none/\(∀o∈L,o.1≠d)/\∀f,(Instr.findKey a (.int .i64 d) c7.toList).run P f=.ok none f)\/∃h m i g,dK l d=some i/\L[h]?=some (d,m,i)/\g.length=t.size/\c7[h]?=some ⟨.int .i64 d,bp t g,m⟩/\aG M w t g i []/\∀f,(Instr.findKey a (.int .i64 d) c7.toList).run P f=.ok (some (h,bp t g)) f:=by
 by_cases k:d∈L.map (·.1)
 ·obtain⟨h,q,r,s,B⟩:=E6 (kd:=u) d c7.toList _ 0 j.keys k;rw[gn] at r;obtain⟨⟨C,m,i⟩,n,rfl⟩:=dH.1 r;obtain⟨g,x,p,y⟩:=j.e h _ n;rw[tn,p] at s;cases s;refine .inr ⟨h,m,i,g,j.me.mem (j0 n),n,x,p,y,λf=>CF v ?_⟩;grind
 refine .inl ⟨?_,λo A q=>k (c4.2 ⟨o,A,q⟩),λf=>CF v (E5 d _ _ 0 j.keys k)⟩;cases z:dK l d with
 |none=>rfl
 |some i=>exact absurd (j.me.keys.mem_iff.2 (c4.2 ⟨_,yM z,rfl⟩)) k
def eW.empty (M:bO->Nat->Prop) (t:af) (a:w.heap[b]?=some (.map #[] 0)):eW M w t b [] 0 #[] []:=
 ⟨⟨.nil,.refl _,.nil,ab⟩,a,rfl,ab⟩
def q5 {α:Type} (L:List (Int×Nat×α)) (a:Int) (d:α) (c:Nat):List (Int×Nat×α)×Nat:=
 if a∈L.map (·.1) then(L.map λb=>if b.1=a then(a,b.2.1,d) else b,c) else(L++[(a,c,d)],c+1)
theorem HB {α:Type} {c:Int} {g:α}:∀{b:List (Int×α)},(b.map (·.1)).Nodup->c∈b.map (·.1)->(b.map λd=>if d.1=c then(c,g) else d).Perm ((c,g)::gN b c)
 |[],_,e=>by cases e
 |(a,u)::b,e,j=>by
  simp only[eH,h7] at e;simp only[eH];by_cases h:a=c
  ·subst h;rw[al rfl];have i:(b.map λd=>if d.1=a then(a,g) else d)=b:=by
    conv=>rhs;rw[<-List.map_id b]
    refine ht λd k=>?_;grind
   have f:gN ((a,u)::b) a=b:=(by unfold gN;rw[k8,ah ab,lN];grind);rw[i,f]
  rw[ah h];have f:gN ((a,u)::b) c=(a,u)::gN b c:=(by simp_all [k8,al,gN]);rw[f];refine((HB e.2 ?_).cons _).trans (.swap _ _ _);grind
theorem hF.put {α:Type} {L:List (Int×Nat×α)} {l:List (Int×α)} {c:Nat} (e:hF L l c) (d:Int) (g:α):hF (q5 L d g c).1 (gh l d g) (bif (dK l d).isSome then c else c+1)/\(q5 L d g c).2=(bif (dK l d).isSome then c else c+1):=by
 have i:(dK l d).isSome=decide (d∈L.map (·.1)):=by
  by_cases h:d∈L.map (·.1)
  ·obtain⟨a,f,rfl⟩:=c4.1 h;rw[e.mem f,decide_eq_true h];rfl
  rw[decide_eq_false h];cases i:dK l d with
  |none=>rfl
  |some v=>exact absurd (e.keys.mem_iff.2 (c4.2 ⟨_,yM i,rfl⟩)) h
 rw[i];unfold q5;have n:((L.map λa=>(a.1,a.2.2)).filter λa=>decide (a.1≠d)).Perm (gN l d):=e.2.1.filter _;by_cases h:d∈L.map (·.1)
 ·rw[al h,decide_eq_true h];refine⟨⟨BH e.1,?_,?_,?_⟩,rfl⟩
  ·have ai:((L.map λa=>if a.1=d then(d,a.2.1,g) else a).map λa=>(a.1,a.2.2))=(L.map λa=>(a.1,a.2.2)).map λa=>if a.1=d then(d,g) else a:=by
    simp only[qb];refine ht λa _=>?_;grind
   show((L.map λa=>if a.1=d then(d,a.2.1,g) else a).map λa=>(a.1,a.2.2)).Perm _;rw[ai];refine(HB ?_ ?_).trans ((n.cons _).trans (BG e.1).symm)
   ·rw[qb];exact e.sQ
   grind
  ·have ai:((L.map λa=>if a.1=d then(d,a.2.1,g) else a).map λa=>a.2.1)=L.map λa=>a.2.1:=by
    grind [List.map_congr_left,List.map_map]
   show((L.map λa=>if a.1=d then(d,a.2.1,g) else a).map λa=>a.2.1).Nodup;rw[ai];exact e.2.2.1
  intro a f;obtain⟨p,o,rfl⟩:=c4.1 f;have:=e.2.2.2 p o;grind
 rw[ah h,decide_eq_false h];refine⟨⟨BH e.1,?_,?_,?_⟩,rfl⟩
 ·have j:gN l d=l:=by
   unfold gN;rw[lN];intro a f;simp only[decide_eq_true_eq];rintro rfl;exact h (e.keys.mem_iff.2 (c4.2 ⟨a,f,rfl⟩))
  have:=BG (k:=d) (v:=g) e.1;rw[j] at this;refine List.Perm.trans ?_ this.symm;show((L++[(d,c,g)]).map λa=>(a.1,a.2.2)).Perm _;rw[h6];exact List.perm_append_comm.trans ((e.2.1).cons _)
 ·show((L++[(d,c,g)]).map λa=>a.2.1).Nodup;rw[h6,hu];refine⟨e.2.2.1,ab,λq m b s r=>?_⟩;obtain⟨a,f,rfl⟩:=c4.1 m;have:=e.2.2.2 a f;grind
 intro a f;rcases eI.1 f with f|f
 ·have:=e.2.2.2 a f;grind
 grind
theorem E2 {α:Type} {h:Int}:∀{b:List α} (a:α->Int) {f:Nat} {d:α},(b.map a).Nodup->b[f]?=some d->a d=h->b.eraseIdx f=b.filter λi=>decide (a i≠h)
 |[],a,f,d,_,c,_=>by grind
 |x::b,a,0,d,e,c,g=>by simp only[iF,bH] at c;subst c;simp only[eH,h7] at e;rw[List.eraseIdx_cons_zero,k8,ah (by grind),lN.2];grind
 |x::b,a,f+1,d,e,c,g=>by simp only[nx] at c;simp only[eH,h7] at e;rw[List.eraseIdx_cons_succ,k8,al,E2 a e.2 c g];grind
def hF.del {α:Type} {L:List (Int×Nat×α)} {l:List (Int×α)} {c:Nat} (b:hF L l c) (d:Int):hF (L.filter λa=>decide (a.1≠d)) (gN l d) c:=by
 refine⟨Oc b.1,?_,?_,λa e=>b.2.2.2 a (gp.1 e).1⟩
 ·have:=b.2.1.filter (λa=>decide (a.1≠d));rw[List.filter_map] at this;exact this
 exact b.2.2.1.sublist (List.filter_sublist.map _)
def aG.Gn (a:eW M w t b l c c7 L):aG M w (.mp t) [.map (some b)] (some (l,c)) [b]:=⟨b,c7,L,rfl,rfl,a.me,kM.2 a.h,a.n,a.e⟩
def aG.Gm (a:aG M w (.mp t) i (some (l,c)) n):∃b c7 L,i=[.map (some b)]/\n=[b]/\eW M w t b l c c7 L:=by obtain⟨b,c7,L,d,e,f,g,h,j⟩:=a;exact⟨b,c7,L,d,e,f,kM.1 g,h,j⟩
def aG.TJ (a:aG M w (.dh Q t) i (some (l,c)) n):∃b c7 L,i=[.map (some b)]/\n=[]/\M Q b/\eW M w t b l c c7 L:=by obtain⟨b,c7,L,d,e,f,k,g,h,j⟩:=a;exact⟨b,c7,L,d,e,k,f,kM.1 g,h,j⟩
def et (w:World) (b:Nat) (c7:Array MapEntry) (c:Nat):World:={w with heap:=w.heap.setIfInBounds b (.map c7 c)}
theorem kX {es':Array MapEntry} {c':Nat} (a:w.heap[b]?=some (.map c7 c)):(et w b es' c').heap[b]?=some (.map es' c'):=by grind [Array.getElem?_eq_some_iff,et]
theorem vT {a:Array MapEntry} (c:g≠b):(et w b a N).heap[g]?=w.heap[g]?:=by grind [Array.getElem?_setIfInBounds_ne,et]
def Is {a:Array MapEntry}:(et w b a g).heap.size=w.heap.size:=by simp[et]
theorem St {es':Array MapEntry} {c':Nat} (d:w.heap[b]?=some (.map c7 c)) (a:Addr):(et w b es' c').cell? a=w.cell? a:=by grind [World.cell?_of_block,vT,kX,World.cell?]
theorem Su {es':Array MapEntry} {c':Nat} (d:w.heap[b]?=some (.map c7 c)) (a:Addr):(et w b es' c').frozen? a=w.frozen? a:=by grind [World.frozen?_of_block,vT,kX,World.frozen?]
def zo {a:Array MapEntry} (c:g≠b):bB w (et w b a N) g:=.of_heap (vT c)
theorem eW.update (f:eW M w t b l c c7 L) {K:TypeId} (I:P.underlying H=some (.map a K)) (D:P.underlying a=some (.int u)) (d:Int) {m:t.den} (Z:A.length=t.size) (bl:aG M w t A m []):∃s N,(Instr.mapUpdate H (.map (some b)) (.int .i64 d) (bp t A)).run P w=.ok () (et w b s (bif (dK l d).isSome then c else c+1))/\(∀{v:bO->Nat->Prop},(∀q d,M q d->v q d/\d≠b)->eW v (et w b s (bif (dK l d).isSome then c else c+1)) t b (gh l d m) (bif (dK l d).isSome then c else c+1) s N)/\h0 w (et w b s (bif (dK l d).isSome then c else c+1)) b:=by
 have av:∀{v:bO->Nat->Prop} {s:Array MapEntry} {O:Nat},(∀q d,M q d->v q d/\d≠b)->∀{A:cI} {m:t.den},aG M w t A m []->aG v (et w b s O) t A m []:=
  λx _ _ a4=>a4.mono (λq d B=>⟨(x q d B).1,zo (x q d B).2⟩) ab
 obtain⟨p,ci⟩:=f.me.put d m;rcases f.find (P:=P) D d with⟨C,F,G⟩|⟨z,cv,dl,bs,C,F,G,W,ce,X⟩
 ·rw[C] at p|-;have B:d∉L.map (·.1):=λco=>(by grind);simp only[Option.isSome_none,cond_false] at p|-;have ai:(q5 L d m c).1=L++[(d,c,m)]:=(by simp_all [ah,q5]);rw[ai] at p;refine⟨c7.push ⟨.int .i64 d,bp t A,c⟩,L++[(d,c,m)],?_,λx=>⟨p,kX f.h,by simp[f.n],λk g o=>?_⟩,?_⟩
  ·simp only[Instr.mapUpdate,Sem.run_bind,run_underlying I,Result.andThen_ok,run_getObj_map f.h,lB D,G];exact nb f.h
  ·rcases bj k L.length with E|E
   ·rw[k9 E] at o;obtain⟨U,R,S,T⟩:=f.e k g o;grind
   rw[lO E] at o;have am:k-L.length=0:=(by grind);rw[am] at o;simp only[iF,bH] at o;subst o;exact⟨A,Z,by rw[Array.getElem?_push,al (by rw[f.n];omega)],av x bl⟩
  intro V Q y;rw[kM.2 f.h] at y;cases y;refine⟨_,_,kM.2 (kX f.h),Nat.le_succ _,λk r ad Y=>?_⟩;grind
 rw[C] at p|-;have B:d∈L.map (·.1):=c4.2 ⟨_,j0 F,rfl⟩;simp only[wq,cond_true] at p|-;have ai:(q5 L d m c).1=L.map λg=>if g.1=d then(d,g.2.1,m) else g:=by simp_all [al,q5]
 rw[ai] at p;have cs:∀(k:Nat) (g:Int×Nat×t.den),L[k]?=some g->g.1=d->k=z:=λk g o r=>(by have a0:=f.me.sQ;have an:k<(L.map (·.1)).length:=(by grind);have:=List.getElem?_inj an a0 (i:=k) (j:=z);grind);refine⟨c7.modify z λr=>{r with key:=.int .i64 d,val:=bp t A},L.map λg=>if g.1=d then(d,g.2.1,m) else g,?_,λx=>⟨p,kX f.h,by simp[f.n],λk g o=>?_⟩,?_⟩
 ·have ap:(Instr.keyThatStays (((c7[z]?).map (·.key)).getD (.int .i64 d)) (.int .i64 d)).run P w=.ok (.int .i64 d) w:=by
   rw[W];simp[Instr.keyThatStays,Instr.sameBits]
  simp only[Instr.mapUpdate,Sem.run_bind,run_underlying I,Result.andThen_ok,run_getObj_map f.h,lB D,X,ap];exact nb f.h
 ·rw[gn] at o;obtain⟨J,a3,rfl⟩:=dH.1 o;by_cases r:J.1=d
  ·grind
  rw[ah r];obtain⟨U,R,S,T⟩:=f.e k J a3;grind
 intro V Q y;rw[kM.2 f.h] at y;cases y;refine⟨_,_,kM.2 (kX f.h),a2 _,λk r ad Y=>?_⟩;grind
theorem eW.delete (d:eW M w t b l c c7 L) {N:TypeId} (G:P.underlying H=some (.map a N)) (v:P.underlying a=some (.int u)) (f:Int) (ad:TypeId) (Q:TypeId):∃k O,(Builtin.delete_ #[H,Q] ad #[.map (some b),.int .i64 f]).run P w=.ok (.tuple #[]) (et w b k c)/\(∀{p:bO->Nat->Prop},(∀g f,M g f->p g f/\f≠b)->eW p (et w b k c) t b (gN l f) c k O)/\h0 w (et w b k c) b:=by
 have ap:∀{p:bO->Nat->Prop} {k:Array MapEntry} {R:Nat},(∀g f,M g f->p g f/\f≠b)->∀{B:cI} {K:t.den},aG M w t B K []->aG p (et w b k R) t B K []:=
  λr _ _ Z=>Z.mono (λg f J=>⟨(r g f J).1,zo (r g f J).2⟩) ab
 rcases d.find (P:=P) v f with⟨V,s,E⟩|⟨o,a0,a3,am,V,s,E,F,an,W⟩
 ·have ai:gN l f=l:=by
   unfold gN;rw[lN];intro j av;simp only[decide_eq_true_eq];grind [F6]
  refine⟨c7,L,?_,λr=>⟨by rw[ai];exact d.me,kX d.h,d.n,λi j m=>?_⟩,?_⟩
  ·simp only[Builtin.delete_,Sem.run_bind,run_underlying G,Result.andThen_ok,run_getObj_map d.h,lB v,E,List.getElem?_toArray,iF,nx];rw[nb d.h];rfl
  ·obtain⟨C,y,z,A⟩:=d.e i j m;grind
  intro U S q;rw[kM.2 d.h] at q;cases q;exact⟨_,_,kM.2 (kX d.h),a2 _,λi D I _=>⟨i,D,I,rfl,rfl⟩⟩
 have T:L.eraseIdx o=L.filter λj=>decide (j.1≠f):=E2 (·.1) d.me.sQ s rfl;refine⟨c7.eraseIdxIfInBounds o,L.eraseIdx o,?_,λr=>⟨by rw[T];exact d.me.del f,kX d.h,?_,λi j m=>?_⟩,?_⟩
 ·simp only[Builtin.delete_,Sem.run_bind,run_underlying G,Result.andThen_ok,run_getObj_map d.h,lB v,W,List.getElem?_toArray,iF,nx];rw[nb d.h];rfl
 ·have x:o<c7.size:=(lK.1 F).1;have X:o<L.length:=(ec.1 s).1;rw[Array.eraseIdxIfInBounds,dif_pos x,Array.size_eraseIdx,List.length_eraseIdx,al X,d.n]
 ·have x:o<c7.size:=(lK.1 F).1;rw[List.getElem?_eraseIdx] at m;rw[Array.eraseIdxIfInBounds,dif_pos x];split at m
  ·rename_i Y;obtain⟨C,y,z,A⟩:=d.e i j m;grind
  rename_i Y;obtain⟨C,y,z,A⟩:=d.e (i+1) j m;grind
 intro U S q;rw[kM.2 d.h] at q;cases q;refine⟨_,_,kM.2 (kX d.h),a2 _,λi D I _=>?_⟩;grind
end
end
section
section
variable {E:dz} {C:c8} {st:aB} {a:Act} {w:World} {I:Nat->Prop} {rt:Nat->cI} {fp:Nat->cO} {o:Oper} {Q:ag->List (Nat×az)->Prop}
def it (tt:List (TypeId×af)) (b:TypeId):Option af:=match ak tt b with|some (.mp a)=>some a|some (.dh _ a)=>some a|_=>none
theorem it.ok {d:TypeId} {i:af} (c:it E.tt d=some i):∃a b,E.P.underlying d=some (.map a b)/\E.P.underlying a=some (.int .i64)/\dm E.P i b:=by
 unfold it at c;split at c
 ·rename_i k h;cases c;obtain⟨j,a,b,_,_,_,_,e,f,g⟩:=E.ok d _ h;exact⟨a,b,e,f,g⟩
 ·rename_i l k h;cases c;obtain⟨j,a,b,_,_,_,_,e,f,g⟩:=E.ok d _ h;exact⟨a,b,e,f,g⟩
 cases c
def sN (tt:List (TypeId×af)) (d:List (Nat×af)) (e:List (Nat×az)) (a:Nat) (c:TypeId):fw:=
 match it tt c,ak d a,ak e a with
 |some f,some (.mp b),none=>bif aT f b then .dc (.ref a []) [(a,⟨.mp b,some ([],0)⟩)] else .bad
 |_,_,_=>.bad
def OC (f:bi C st a.tmps w I rt fp) (l:o.op=.makeMap H none) (b:(sN E.tt j st.h c H).K Q):Yields E C st a w I rt fp o Q:=by
 unfold sN at b;split at b
 case h_2=>exact b.elim
 rename_i m d p q g;cases e:aT m d with
 |false=>rw[e] at b;exact b.elim
 |true=>
 rw[e] at b;have i:(w.alloc (.map #[] 0)).heap[w.heap.size]?=some (.map #[] 0):=(by show(w.heap.push _)[w.heap.size]?=_;rw[Array.getElem?_push,al rfl]);refine⟨.map (some w.heap.size),w.alloc (.map #[] 0),I,λ_=>[.map (some w.heap.size)],λ_=>[w.heap.size],.ref c [],[(c,⟨.mp d,some ([],0)⟩)],?_,.alloc w _,λ_ b=>b,λ_ b=>.inl b,.one g (aG.Gn (eW.empty _ _ i)) ab (λn e=>?_),?_,b⟩
 ·simp[execOp,l,Instr.makeMap,newObj,Sem.run]
 ·simp only[eV] at e;subst e;exact⟨a2 _,ab,λb=>by have:=f.ib _ (.inl b);omega⟩
 have k:ak ([(c,(⟨.mp d,some ([],0)⟩:az))]++st.h) c=some ⟨.mp d,some ([],0)⟩:=(by rw[List.singleton_append,bG,al rfl]);refine .ref (t:=⟨.mp d,some ([],0)⟩) (τ':=.mp d) (loc:=none) (cs:=[.map (some w.heap.size)]) k ?_;have:de [(c,(⟨.mp d,some ([],0)⟩:az))] (λ_=>[Value.map (some w.heap.size)]) rt c=[.map (some w.heap.size)]:=(by simp[de,bG]);rw[this];exact aJ.here
def yJ (a:af) (c:Option (List (Int×a.den)×Nat)) (d:a.den) (b:Int):Bool->ag
 |true=>.dg [.val a ((hB c b).getD d),.val .bool (hB c b).isSome]
 |false=>.val a ((hB c b).getD d)
def qZ (tt:List (TypeId×af)) (j:List (Nat×az)) (i:TypeId) (k c:ag) (f:Bool):fw:=
 match it tt i,c with
 |some h,.val (.int .i64) c=>match k with
  |.val (.dh l a) b=>match jo a with
   |some d=>bif aT h a then .dc (yJ a b d c f) [] else .bad
   |none=>.bad
  |.ref id g=>match ak j id with
   |some e=>match dn e.1 g with
    |some (.mp a)=>match jo a with
     |some d=>bif aT h a then .part (Option (List (Int×a.den)×Nat)) (λb=>bN e.1 e.2 g (.mp a) b) (λb=>(yJ a b d c f,[])) else .bad
     |none=>.bad
    |_=>.bad
   |none=>.bad
  |_=>.bad
 |_,_=>.bad
def FY {l k:TypeId} (s:E.P.underlying l=some (.map H k)) (f:E.P.underlying H=some (.int .i64)) (R:dm E.P d k) {J:Operand} {e:Bool} (U:o.op=.lookup l b J e) {n:Int} (T:a.eval J=.int .i64 n) {v:d.den} (W:jo d=some v) {m:Option (List (Int×d.den)×Nat)} (g:(m=none/\a.eval b=.map none)\/∃p t q z y,m=some (t,q)/\a.eval b=.map (some p)/\eW (aY I C.B) w d p t q z y):∃u,(execOp a.eval o).run E.P w=.ok (.value u) w/\∀A:List (Nat×az),bk (aY I C.B) w A rt fp (yJ d m v n e) u:=by
 obtain⟨G,x,aq,Y,K,L⟩:=ry R W;have F:(zeroValue k).run E.P w=.ok x w:=(by simp[zeroValue,typeInfo,aq,Y]);have X:∃i,aG (aY I C.B) w d i ((hB m n).getD v) []/\(Instr.lookup l (a.eval b) (.int .i64 n) e).run E.P w=.ok (if e then .tuple #[bp d i,.bool (hB m n).isSome] else bp d i) w:=by
  rcases g with⟨rfl,g⟩|⟨p,t,q,z,y,rfl,g,r⟩
  ·refine⟨x.cells.toList,by simpa[hB] using L _ _,?_⟩;rw[g];have S:(Instr.findKey H (.int .i64 n) []).run E.P w=.ok none w:=CF f rfl;simp only[Instr.lookup,Sem.run_bind,run_underlying s,Result.andThen_ok,Sem.run_pure,lB f,S,F];rw[<-K];cases e<;>rfl
  rw[g];rcases r.find (P:=E.P) f n with⟨c,_,N⟩|⟨an,ap,av,M,c,_,ad,am,O,Q⟩
  ·refine⟨x.cells.toList,by simpa[hB,c] using L _ _,?_⟩;simp only[Instr.lookup,Sem.run_bind,run_underlying s,Result.andThen_ok,Sem.run_pure,run_getObj_map r.h,lB f,N,F];rw[<-K];simp only[hB,aQ,c,Option.isSome_none]
  refine⟨M,by simpa[hB,c] using O,?_⟩;simp only[Instr.lookup,Sem.run_bind,run_underlying s,Result.andThen_ok,Sem.run_pure,run_getObj_map r.h,lB f,Q];simp only[hB,aQ,c,wq]
 obtain⟨i,D,V⟩:=X;refine⟨_,by simp only[execOp,U,T,Sem.run_bind,V];rfl,λA=>?_⟩;cases e with
 |false=>exact .val D
 |true=>
  refine .dg ab (λG Z u c j=>?_)
  match G with
  |0=>simp at c j;subst c;subst j;exact .val D
  |1=>simp at c j;subst c;subst j;exact .bool _
  |n+2=>simp at c
def aG.BO {e:Option (List (Int×d.den)×Nat)} (j:aG f w (.mp d) i e n):(e=none/\i=[.map none]/\n=[])\/∃a c b h g,e=some (c,b)/\i=[.map (some a)]/\n=[a]/\eW f w d a c b h g:=by
 cases e with
 |none=>exact .inl ⟨rfl,j.2,j.1⟩
 |some o=>
  obtain⟨c,b⟩:=o;obtain⟨a,h,g,k,l,m⟩:=j.Gm;exact .inr ⟨a,c,b,h,g,rfl,k,l,m⟩
def aG.Jd {m:bO} {e:Option (List (Int×d.den)×Nat)} (j:aG f w (.dh m d) i e n):(e=none/\i=[.map none])\/∃a c b h g,e=some (c,b)/\i=[.map (some a)]/\eW f w d a c b h g:=by
 cases e with
 |none=>exact .inl ⟨rfl,j.2⟩
 |some o=>
  obtain⟨c,b⟩:=o;obtain⟨a,h,g,k,_,_,l⟩:=j.TJ;exact .inr ⟨a,c,b,h,g,rfl,k,l⟩
def N6 (s:bi C st a.tmps w I rt fp) {j:Operand} {J:Bool} (D:o.op=.lookup H b j J) (c:(qZ E.tt st.h H (aI st.g b) (aI st.g j) J).K Q):Yields E C st a w I rt fp o Q:=by
 have f:=s.aI b;have t:=s.aI j;unfold qZ at c;split at c
 case h_2=>exact c.elim
 rename_i O a3 R P;obtain⟨am,an,L,M,N⟩:=it.ok R;rw[P] at t;generalize B:a.eval j=a0 at t;cases t with|val W=>
 obtain⟨_,rfl⟩:=W;split at c
 ·rename_i ad A x r;split at c
  case h_2=>exact c.elim
  rename_i Z u;cases e:aT O A with
  |false=>rw[e] at c;exact c.elim
  |true=>
  rw[e] at c;rw[r] at f;generalize i:a.eval b=Y at f;cases f with|val V=>
  obtain⟨X,y,z⟩:=FY (rt:=rt) (fp:=fp) (I:=I) (C:=C) (E:=E) (w:=w) (a:=a) (m:=x) L M (N.lay e) D B u (by
   rcases V.Jd with⟨ai,d⟩|⟨l,v,n,q,k,ai,d,p⟩
   ·exact .inl ⟨ai,by rw[i,d];rfl⟩
   exact .inr ⟨l,v,n,q,k,ai,by rw[i,d];rfl,p⟩)
  exact .pure y (z _) c
 ·rename_i id a4 r;split at c
  case h_2=>exact c.elim
  rename_i bl F;split at c
  case h_2=>exact c.elim
  rename_i A av;split at c
  case h_2=>exact c.elim
  rename_i Z u;cases e:aT O A with
  |false=>rw[e] at c;exact c.elim
  |true=>
  rw[e] at c;obtain⟨x,S,c⟩:=c;rw[r] at f;generalize i:a.eval b=Y at f;cases f with|ref G T=>
  rw[F] at G;cases G;obtain⟨rfl,ap,U,_⟩:=s.ip F S T;obtain⟨X,y,z⟩:=FY (rt:=rt) (fp:=fp) (I:=I) (C:=C) (E:=E) (w:=w) (a:=a) (m:=x) L M (N.lay e) D B u (by
   rcases U.BO with⟨ai,d,_⟩|⟨l,v,n,q,k,ai,d,_,p⟩
   ·exact .inl ⟨ai,by rw[i,d];rfl⟩
   exact .inr ⟨l,v,n,q,k,ai,by rw[i,d];rfl,p⟩)
  exact .pure y (z _) c
 exact c.elim
def q4 (tt:List (TypeId×af)) (f:List (Nat×az)) (e:TypeId) (g:ag):fw:=
 match it tt e with
 |none=>.bad
 |some _=>match g with
  |.val (.dh _ b) a=>.dc (.val (.int .i64) (sK (α:=b.den) a)) []
  |.ref id d=>match ak f id with
   |some c=>match dn c.1 d with
    |some (.mp b)=>.part (Option (List (Int×b.den)×Nat)) (λa=>bN c.1 c.2 d (.mp b) a) (λa=>(.val (.int .i64) (sK a),[]))
    |_=>.bad
   |none=>.bad
  |_=>.bad
def Gk {q r:TypeId} (l:E.P.underlying H=some (.map q r)) (p:o.op=.call {callee:=.builtin .len,args:=#[b],argTypes:=#[H]}) {m:Option (List (Int×d.den)×Nat)} (c:(m=none/\a.eval b=.map none)\/∃f e g i k,m=some (e,g)/\a.eval b=.map (some f)/\eW (aY I C.B) w d f e g i k):(execOp a.eval o).run E.P w=.ok (.value (.int .i64 (sK m))) w:=by
 rcases c with⟨rfl,c⟩|⟨f,e,g,i,k,rfl,c,j⟩
 ·simp[execOp,p,resolve,invoke,builtin,c,Builtin.len_,run_underlying l,goInt,sK]
 have s:i.size=e.length:=(by rw[j.n,j.me.len]);simp only[execOp,p,resolve,invoke,builtin,Sem.run_bind,Sem.run_pure,Result.andThen_ok,tz,eH,List.map_nil,c,Builtin.len_,List.getElem?_toArray,iF,run_underlying l,run_getObj_map j.h,goInt,sK,s]
def OE (s:bi C st a.tmps w I rt fp) (t:o.op=.call {callee:=.builtin .len,args:=#[b],argTypes:=#[H]}) (c:(q4 E.tt st.h H (aI st.g b)).K Q):Yields E C st a w I rt fp o Q:=by
 have e:=s.aI b;unfold q4 at c;split at c
 ·exact c.elim
 rename_i S y;obtain⟨J,L,x,P,R⟩:=it.ok y;generalize f:a.eval b=T at e;split at c
 ·rename_i G F r p;rw[p] at e;cases e with|val D=>
  refine .pure (Gk (I:=I) (C:=C) (m:=r) x t ?_) (.int _ _) c;rcases D.Jd with⟨ai,d⟩|⟨j,q,k,n,i,ai,d,l⟩
  ·exact .inl ⟨ai,by rw[f,d];rfl⟩
  exact .inr ⟨j,q,k,n,i,ai,by rw[f,d];rfl,l⟩
 ·rename_i id O p;split at c
  case h_2=>exact c.elim
  rename_i U u;split at c
  case h_2=>exact c.elim
  rename_i F N;obtain⟨r,z,c⟩:=c;rw[p] at e;cases e with|ref v A=>
  rw[u] at v;cases v;obtain⟨rfl,M,B,_⟩:=s.ip u z A;refine .pure (Gk (I:=I) (C:=C) (m:=r) x t ?_) (.int _ _) c;rcases B.BO with⟨ai,d,_⟩|⟨j,q,k,n,i,ai,d,_,l⟩
  ·exact .inl ⟨ai,by rw[f,d];rfl⟩
  exact .inr ⟨j,q,k,n,i,ai,by rw[f,d];rfl,l⟩
 exact c.elim
end
end
section
section
variable {E:dz} {C:c8} {st:aB} {a:Act} {w:World} {I:Nat->Prop} {rt:Nat->cI} {fp:Nat->cO} {o:Oper} {Q:ag->List (Nat×az)->Prop}
def za (b c d:ag):fw:=
 match b with
 |.val .bool b=>.part Bool (λa=>b=a) (λa=>(match a with|true=>c|false=>d,[]))
 |_=>.bad
def Rh (e:bi C st a.tmps w I rt fp) {d:Operand} (j:o.op=.pick b h d) (c:(za (aI st.g b) (aI st.g h) (aI st.g d)).K Q):Yields E C st a w I rt fp o Q:=by
 have f:=e.aI b;unfold za at c;split at c
 case h_2=>exact c.elim
 rename_i i l;obtain⟨i,rfl,c⟩:=c;rw[l] at f;generalize k:a.eval b=n at f;cases f with|val m=>
 obtain⟨_,rfl⟩:=m;cases i
 ·exact .pure (v:=a.eval d) (by simp[execOp,j,k,bp,asBool]) (e.aI d) c
 exact .pure (v:=a.eval h) (by simp[execOp,j,k,bp,asBool]) (e.aI h) c
def CY (e:UnOp) (c:ag):fw:=
 match e,c with
 |.neg,.val (.int a) c=>.part Int (λb=>a.wrap (0-c)=b) (λb=>(.val (.int a) b,[]))
 |.xor,.val (.int a) c=>.part Int (λb=>a.wrap (BitVec.ofInt a.bits (if a.signed then-1 else a.max)^^^BitVec.ofInt a.bits c).toNat=b) (λb=>(.val (.int a) b,[]))
 |.not,.val .bool d=>.dc (.val .bool (!d)) []
 |_,_=>.bad
def To (l:bi C st a.tmps w I rt fp) {k:UnOp} (i:o.op=.unOp k H b) (c:(CY k (aI st.g b)).K Q):Yields E C st a w I rt fp o Q:=by
 have d:=l.aI b;unfold CY at c;generalize j:a.eval b=p at d;split at c
 ·rename_i f m e;obtain⟨n,rfl,c⟩:=c;rw[e] at d;cases d with|val h=>
  obtain⟨_,rfl⟩:=h;exact .pure (v:=.int f _) (by simp only[execOp,i,j,bp,Op.unary,Op.intArith];rfl) (.int f _) c
 ·rename_i f m e;obtain⟨n,rfl,c⟩:=c;rw[e] at d;cases d with|val h=>
  obtain⟨_,rfl⟩:=h;exact .pure (v:=.int f _) (by simp only[execOp,i,j,bp,Op.unary,Op.intBits];rfl) (.int f _) c
 ·rename_i q e;rw[e] at d;cases d with|val h=>
  obtain⟨_,rfl⟩:=h;exact .pure (v:=.bool _) (by simp only[execOp,i,j,bp,Op.unary];rfl) (.bool _) c
 exact c.elim
def wR (tt:List (TypeId×af)) (e d:TypeId) (a:ag):fw:=
 match ak tt e,ak tt d,a with
 |some (.int _),some (.int c),.val (.int _) a=>.part Int (λb=>c.wrap a=b) (λb=>(.val (.int c) b,[]))
 |_,_,_=>.bad
def Lm (k:bi C st a.tmps w I rt fp) {e:TypeId} (l:o.op=.convert e H b) (c:(wR E.tt e H (aI st.g b)).K Q):Yields E C st a w I rt fp o Q:=by
 have d:=k.aI b;unfold wR at c;split at c
 case h_2=>exact c.elim
 rename_i s f t u i j h;obtain⟨x,rfl,c⟩:=c;generalize m:a.eval b=r at d;rw[h] at d;cases d with|val n=>
 obtain⟨_,rfl⟩:=n;obtain⟨_,_,_,_,_,p⟩:=E.ok e _ i;obtain⟨_,_,_,_,_,q⟩:=E.ok H _ j;exact .pure (v:=.int f _) (by simp[execOp,l,m,bp,convert,run_underlying p,run_underlying q,Conv.intToInt]) (.int f _) c
def ni (c:ByteArray) (a:Int):cJ:=if 0<=a then(c[a.toNat]?).map λb=>(b.toNat:Int) else none
def yH:ByteArray:=⟨#[0,1,2,2,3,3,3,3,4,4,4,4,4,4,4,4,5,5,5,5,5,5,5,5,5,5,5,5,5,5,5,5,6,6,6,6,6,6,6,6,6,6,6,6,6,6,6,6,6,6,6,6,6,6,6,6,6,6,6,6,6,6,6,6,7,7,7,7,7,7,7,7,7,7,7,7,7,7,7,7,7,7,7,7,7,7,7,7,7,7,7,7,7,7,7,7,7,7,7,7,7,7,7,7,7,7,7,7,7,7,7,7,7,7,7,7,7,7,7,7,7,7,7,7,7,7,7,7,8,8,8,8,8,8,8,8,8,8,8,8,8,8,8,8,8,8,8,8,8,8,8,8,8,8,8,8,8,8,8,8,8,8,8,8,8,8,8,8,8,8,8,8,8,8,8,8,8,8,8,8,8,8,8,8,8,8,8,8,8,8,8,8,8,8,8,8,8,8,8,8,8,8,8,8,8,8,8,8,8,8,8,8,8,8,8,8,8,8,8,8,8,8,8,8,8,8,8,8,8,8,8,8,8,8,8,8,8,8,8,8,8,8,8,8,8,8,8,8,8,8,8,8,8,8,8,8]⟩
def zu (tt:List (TypeId×af)) (d:TypeId) (f e:ag):fw:=
 match ak tt d,f,e with
 |some .str,.bD (.string c),.val (.int _) b=>.part Int (λa=>ni c b=some a) (λa=>(.val (.int .u8) a,[]))
 |some .str,.val .str c,.val (.int _) b=>.part Int (λa=>ni c b=some a) (λa=>(.val (.int .u8) a,[]))
 |_,_,_=>.bad
def S0 (y:bi C st a.tmps w I rt fp) (D:o.op=.index H h b) (n:(zu E.tt H (aI st.g h) (aI st.g b)).K Q):Yields E C st a w I rt fp o Q:=by
 have j:=y.aI h;have i:=y.aI b;have x:∀(f:ByteArray) (k:IntKind) (e c:Int),ak E.tt H=some .str->a.eval h=.string f->a.eval b=.int k e->ni f e=some c->Q (.val (.int .u8) c) []->Yields E C st a w I rt fp o Q:=by
  intro f k e c p m l d q;obtain⟨_,_,_,_,_,u⟩:=E.ok H _ p;refine .pure (v:=.int .u8 c) ?_ (.int .u8 c) q;unfold ni at d;split at d
  case isFalse=>cases d
  rename_i A;obtain⟨G,B,rfl⟩:=dH.1 d;simp[execOp,D,Instr.index,m,l,asIntOf,run_underlying u,A,B]
 unfold zu at n;split at n
 ·rename_i f k e p m l;obtain⟨c,d,q⟩:=n;rw[m] at j;rw[l] at i;generalize s:a.eval h=z at j;generalize r:a.eval b=u at i;cases j;cases i with|val t=>
  obtain⟨_,rfl⟩:=t;exact x f k e c p s r d q
 ·rename_i f k e p m l;obtain⟨c,d,q⟩:=n;rw[m] at j;rw[l] at i;generalize s:a.eval h=z at j;generalize r:a.eval b=u at i;cases j with|val F=>
  obtain⟨_,rfl⟩:=F;cases i with|val t=>
  obtain⟨_,rfl⟩:=t;exact x f k e c p s r d q
 exact n.elim
def yn (d:ag) (c:Nat):fw:=
 match d with
 |.dg b=>match b[c]? with
  |some a=>.dc a []
  |none=>.bad
 |_=>.bad
def Mu (k:bi C st a.tmps w I rt fp) (n:o.op=.extract b c) (d:(yn (aI st.g b) c).K Q):Yields E C st a w I rt fp o Q:=by
 have f:=k.aI b;unfold yn at d;generalize p:a.eval b=q at f;split at d
 case h_2=>exact d.elim
 rename_i s j;split at d
 case h_2=>exact d.elim
 rename_i i h;rw[j] at f;cases f with|dg r l=>
 rename_i e;have m:c<e.size:=(by have:=(ec.1 h).1;omega);have:e[c]?=some e[c]:=tl m;exact .pure (v:=e[c]) (by simp[execOp,n,p,Instr.extract,this]) (l c i _ h this) d
def sO (c:Bool) (a:ag):List ag->fw
 |[]=>.dc a []
 |y::d=>match a,y with
  |.val (.int b) a,.val (.int e) y=>if b=e then(match c with|true=>sO c (.val (.int b) (if y>a then y else a)) d|false=>sO c (.val (.int b) (if y<a then y else a)) d) else .bad
  |_,_=>.bad
def yS (j:bi C st a.tmps w I rt fp) (m:Bool):∀(e:List Operand) (i:ag) (f:Value),bk (aY I C.B) w st.h rt fp i f->(sO m i (e.map (aI st.g))).K Q->∃d c,((e.map a.eval).foldlM (match m with|true=>Builtin.max2|false=>Builtin.min2) f).run E.P w=.ok d w/\bk (aY I C.B) w st.h rt fp c d/\Q c []
 |[],i,f,k,b=>⟨f,i,rfl,k,b⟩
 |y::e,i,f,k,b=>by
  have l:=j.aI y;simp only[eH,sO] at b;generalize p:a.eval y=A at l;split at b
  case h_2=>exact b.elim
  rename_i q x v z r;split at b
  case isFalse=>exact b.elim
  rename_i s;subst s;rw[r] at l;cases k with|val t=>cases l with|val u=>
  obtain⟨_,rfl⟩:=t;obtain⟨_,rfl⟩:=u;cases m
  ·obtain⟨d,c,aq,n,o⟩:=yS j false e _ _ (.int q _) b;refine⟨d,c,?_,n,o⟩;simp only[eH,List.foldlM_cons,p,Sem.run_bind];exact aq
  obtain⟨d,c,aq,n,o⟩:=yS j true e _ _ (.int q _) b;refine⟨d,c,?_,n,o⟩;simp only[eH,List.foldlM_cons,p,Sem.run_bind];exact aq
def Bn:ag->Bool
 |.val _ _|.bD _|.bZ _ _=>true
 |_=>false
def eE (tt:List (TypeId×af)) (i:List (Nat×af)) (d:List (Nat×az)) (b:Operand->ag) (g:Nat) (h:Op):fw:=
 match h with
 |.move a=>.dc (b a) []
 |.assign a=>bif Bn (b a) then .dc (b a) [] else .bad
 |.pick f a n=>za (b f) (b a) (b n)
 |.alloc c=>rU tt i d g c
 |.box c a=>tT tt d g c (b a)
 |.build c l=>tS tt b c l.toList
 |.buildSlice c e l=>r2 tt i d b g c e l.toList
 |.load c a=>qY tt d c (b a)
 |.nilCheck a=>q6 d (b a)
 |.binOp h c a n _=>match b a,b n with
  |.val .bool x,.val .bool y=>match ak tt c with
   |some .bool=>Ab h (.val .bool x) (.val .bool y)
   |_=>.bad
  |.val (.int k) v,.val (.int s) e=>jd h k v s e
  |_,_=>.bad
 |.unOp h _ a=>CY h (b a)
 |.convert z g a=>wR tt z g (b a)
 |.makeSlice c t f=>q1 tt i d g c (b t) (b f)
 |.slice c a u r none=>rl tt d c (b a) (u.map b) (r.map b)
 |.fieldAddr c a e=>qO tt d c (b a) e
 |.field c a e=>sv tt d c (b a) e
 |.indexAddr c a j=>qT tt d c (b a) (b j)
 |.index c a j=>zu tt c (b a) (b j)
 |.extract a e=>yn (b a) e
 |.call f=>match f.callee,f.args.toList,f.argTypes.toList with
  |.builtin .len,[a],[c]=>match eA tt c with
   |some _=>qX tt d c (b a)
   |none=>q4 tt d c (b a)
  |.builtin .max,a::m,_=>sO true (b a) (m.map b)
  |.builtin .min,a::m,_=>sO false (b a) (m.map b)
  |_,_,_=>.bad
 |.makeMap c none=>sN tt i d g c
 |.lookup c a k w=>qZ tt d c (b a) (b k) w
 |.makeFunc (.func p) q o=>bif q.isEmpty then .dc (.bZ p (o.toList.map b)) [] else .bad
 |_=>.bad
theorem L6 (e:bi C st a.tmps w I rt fp) (d:(eE E.tt j st.h (aI st.g) c o.op).K Q):Yields E C st a w I rt fp o Q:=by
 unfold eE at d;split at d
 ·rename_i f b;exact .pure (v:=a.eval f) (by simp[execOp,b]) (e.aI f) d
 ·rename_i f b;cases B:Bn (aI st.g f) with
  |false=>rw[B] at d;exact d.elim
  |true=>rw[B] at d;exact .pure (v:=a.eval f) (by simp[execOp,b]) (e.aI f) d
 ·rename_i b;exact Rh e b d
 ·rename_i b;exact Kg e b d
 ·rename_i b;exact KN e b d
 ·rename_i b;exact KK e b d
 ·rename_i b;exact KR e b d
 ·rename_i b;exact N3 e b d
 ·rename_i b;exact OU e b d
 ·rename_i X n f u Y b;split at d
  ·rename_i P R m p;split at d
   ·rename_i M;refine D8 e b (λ_ _ _ _=>?_) (by rw[m,p];exact d);exact(E.ok n _ M).choose_spec.2.2.2.2
   exact d.elim
  ·rename_i m p;refine D8 e b (λP R _ D=>?_) (by rw[m,p];exact d);rw[m] at D;cases D.1
  exact d.elim
 ·rename_i b;exact To e b d
 ·rename_i b;exact Lm e b d
 ·rename_i b;exact Oh e b d
 ·rename_i b;exact SC e b d
 ·rename_i b;exact MG e b d
 ·rename_i b;exact MI e b d
 ·rename_i b;exact Nm e b d
 ·rename_i b;exact S0 e b d
 ·rename_i b;exact Mu e b d
 ·rename_i G b;obtain⟨U,i,x⟩:=G;simp only at d;split at d
  ·rename_i f n ai V;have k:i=#[f]:=(by cases i;simp_all);have J:x=#[n]:=(by cases x;simp_all);subst k;subst J;split at d
   ·exact NX e b d
   exact OE e b d
  ·rename_i f l ai;have k:i=(f::l).toArray:=(by cases i;simp_all);obtain⟨t,F,aq,r,s⟩:=yS (E:=E) e true l _ _ (e.aI f) d;refine .pure (v:=t) ?_ r s;simp only[execOp,b,resolve,invoke,builtin,Sem.run_bind,Sem.run_pure,Result.andThen_ok,k,Builtin.max_];simp only[tz,eH,aq];rfl
  ·rename_i f l ai;have k:i=(f::l).toArray:=(by cases i;simp_all);obtain⟨t,F,aq,r,s⟩:=yS (E:=E) e false l _ _ (e.aI f) d;refine .pure (v:=t) ?_ r s;simp only[execOp,b,resolve,invoke,builtin,Sem.run_bind,Sem.run_pure,Result.andThen_ok,k,Builtin.min_];simp only[tz,eH,aq];rfl
  exact d.elim
 ·rename_i b;exact OC e b d
 ·rename_i b;exact N6 e b d
 ·rename_i L y H b;cases q:y.isEmpty with
  |false=>rw[q] at d;exact d.elim
  |true=>
   rw[q] at d;obtain rfl:y=#[]:=(by simpa using q);refine .pure (v:=.func (.func L) #[] (H.map a.eval)) (by simp[execOp,b,Instr.makeFunc]) (.bZ ab (λW f T z A=>?_)) d;rw[gn] at z;rw[Array.getElem?_map] at A;obtain⟨u,N,rfl⟩:=dH.1 z;obtain⟨S,O,rfl⟩:=dH.1 A;obtain rfl:u=S:=(by simpa[O] using N.symm);exact e.aI u
 exact d.elim
end
end
def bV (b:Nat) (a:cO):Bool:=a.any λc=>Nat.beq c b
theorem eQ:bV c n=true↔c∈n:=by
 simp only[bV,mE];constructor
 ·rintro⟨d,b,a⟩;rw[<-dW a];exact b
 exactλa=>⟨c,a,oJ c⟩
def ag.dB (a:cO) (b:ag):Bool:=b.ids.any λc=>bV c a
def rk:List aO->Option (List aO)
 |.unst::a=>(rk a).map λb=>.unst::b
 |.fst::_=>some [.snd]
 |.snd::_=>some [.fst]
 |_=>none
def om:List aO->List aO->Option (List aO)
 |p,[]=>rk p
 |.idx _::p,.idx _::a=>om p a
 |.deref::p,.deref::a=>om p a
 |.unst::p,.unst::a=>om p a
 |.fst::p,.fst::a=>om p a
 |.snd::p,.snd::a=>om p a
 |_,_=>none
def Bq (a b:List aO):Bool:=eP a b||(om a b).isSome
def Iy:∀{p b:List aO},rk p=some b->eP p b=true
 |.unst::p,b,a=>by obtain⟨d,c,rfl⟩:=dH.1 a;exact Iy (p:=p) c
 |.fst::_,_,a=>by cases a;rfl
 |.snd::_,_,a=>by cases a;rfl
 |[],_,a=>by cases a
 |.idx _::_,_,a=>by cases a
 |.deref::_,_,a=>by cases a
def Ix:∀{q p b:List aO},om p q=some b->eP p (q++b)=true
 |[],p,b,a=>by have c:rk p=some b:=(by cases p<;>exact a);exact Iy c
 |s::q,p,b,a=>by
  cases p with
  |nil=>cases s<;>cases a
  |cons d p=>cases s<;>cases d<;>first|(cases a;done)|exact Ix (q:=q) (p:=p) a
def Iz:∀{p e:List aO} {τ h:af},dn τ p=some h->rk p=some e->∃(o:af) (m:Nat),∀(i:World) (b:Loc) (g:cI),∃k,aJ i τ b g e o (b.map λd=>(d.1,d.2+m)) k
 |.unst::p,e,τ,h,c,a=>by
  obtain⟨q,l,rfl⟩:=dH.1 a;cases τ with
  |st n=>exact Iz (p:=p) (τ:=n) c l
  |_=>cases c
 |.fst::p,e,τ,h,c,a=>by
  cases a;cases τ with
  |pr f j=>exact⟨j,f.size,λi b g=>⟨_,aJ.here⟩⟩
  |_=>cases c
 |.snd::p,e,τ,h,c,a=>by
  cases a;cases τ with
  |pr f j=>
   refine⟨f,0,λi b g=>⟨g.take f.size,?_⟩⟩;have:(b.map λd=>(d.1,d.2+0))=b:=(by cases b<;>rfl);rw[this];exact aJ.here
  |_=>cases c
 |[],_,_,_,_,a=>by cases a
 |.idx _::_,_,_,_,_,a=>by cases a
 |.deref::_,_,_,_,_,a=>by cases a
def s9 {o:World}:∀{q p d:List aO} {e f:af} {j:Loc} {i:cI} {g:af} {k:Loc} {h:cI},dn e p=some f->om p q=some d->aJ o e j i q g k h->∃l,dn g l=some f/\rk l=some d
 |[],p,d,e,f,j,i,g,k,h,c,b,a=>by obtain⟨rfl,_,_⟩:=aJ.en.1 a;have m:rk p=some d:=(by cases p<;>exact b);exact⟨p,c,m⟩
 |s::q,p,d,e,f,j,i,g,k,h,c,b,a=>by
  cases p with
  |nil=>cases s<;>cases b
  |cons n p=>
   cases e<;>cases s<;>simp only[aJ] at a<;>cases n<;>first|(cases b;done)|skip
   case osl.idx.idx=>obtain⟨_,_,_,_,_,_,_,_,_,a⟩:=a;exact s9 (q:=q) (p:=p) c b a
   case optr.deref.deref=>obtain⟨_,_,_,_,_,_,a⟩:=a;exact s9 (q:=q) (p:=p) c b a
   case st.unst.unst=>exact s9 (q:=q) (p:=p) c b a
   case pr.fst.fst=>exact s9 (q:=q) (p:=p) c b a
   case pr.snd.snd=>exact s9 (q:=q) (p:=p) c b a
def aJ.split {u:World}:∀{q j:List aO} {d k:af} {g i:Loc} {f h:cI},aJ u d g f (q++j) k i h->∃e c b,aJ u d g f q e c b/\aJ u e c b j k i h
 |[],j,d,k,g,i,f,h,a=>⟨d,g,f,aJ.here,a⟩
 |s::q,j,d,k,g,i,f,h,a=>by
  rw[h3] at a;cases d<;>cases s<;>simp only[aJ] at a
  case osl.idx=>
   obtain⟨l,t,x,v,m,ai,n,o,w,a⟩:=a;obtain⟨e,c,b,p,r⟩:=aJ.split (q:=q) a;exact⟨e,c,b,⟨l,t,x,v,m,ai,n,o,w,p⟩,r⟩
  case optr.deref=>
   obtain⟨l,t,m,ai,n,o,a⟩:=a;obtain⟨e,c,b,p,r⟩:=aJ.split (q:=q) a;exact⟨e,c,b,⟨l,t,m,ai,n,o,p⟩,r⟩
  case st.unst=>exact aJ.split (q:=q) a
  case pr.fst=>exact aJ.split (q:=q) a
  case pr.snd=>exact aJ.split (q:=q) a
def aJ.upper {f D:List aO} (B:dn d f=some R) (n:om f m=some D) (b:aJ e d none A m o (some (c,g)) i) (z:∀(m:List aO) (o:af) (q:Loc) (i:cI),eP f m=true->aJ e d none A m o q i->aJ k d none A m o q i):∃s,aJ k d none A m o (some (c,g)) s:=by
 obtain⟨J,u,v⟩:=s9 B n b;obtain⟨L,I,l⟩:=Iz u v;obtain⟨F,w⟩:=l e (some (c,g)) i;obtain⟨K,p,h,j,x⟩:=aJ.split (z _ _ _ _ (Ix n) (b.append w));have ai:=j.ty;rw[b.ty] at ai;obtain rfl:=dp ai;obtain⟨G,y⟩:=l k p h;obtain⟨_,a,_⟩:=x.hn y;cases p with
 |none=>cases a
 |some E=>
  obtain⟨r,C⟩:=E;simp only[hl,bH,e9] at a;obtain⟨t,H⟩:=a;obtain rfl:c=r:=t;obtain rfl:g=C:=U;exact⟨h,j⟩
def iQ (c:List (Nat×List aO)):ag->Bool
 |.ref id []=>c.any λa=>Nat.beq a.1 id
 |.ref id b=>c.any λa=>Nat.beq a.1 id&&eP a.2 b
 |.addr id b=>c.any λa=>Nat.beq a.1 id&&Bq a.2 b
 |.view id b _ _=>c.any λa=>Nat.beq a.1 id&&eP a.2 b
 |_=>false
def hp (c:cO) (b:List (Nat×List aO)):ag->Bool
 |.bZ _ f=>f.all λa=>!(a.dB c)||iQ b a
 |.app id h _ _ g=>(g.all λe=>!(bV e c))&&b.any λd=>Nat.beq d.1 id&&ig d.2 h
 |a=>iQ b a
def di (b:cO) (c:List (Nat×List aO)) (a:ag):ag:=bif a.dB b&&!(hp b c a) then .dead else a
def dJ (b:cO) (c:List (Nat×List aO)):ag->ag
 |.dg d=>.dg (d.map (di b c))
 |a=>di b c a
def kill (b:cO) (d:List (Nat×List aO)) (c:List (Nat×ag)):List (Nat×ag):=c.map λa=>(a.1,dJ b d a.2)
def del (a:cO) (b:List (Nat×az)):List (Nat×az):=b.filter λc=>!(bV c.1 a)
def yC (a:List aO):eP [] a=false:=by cases a<;>simp[eP,mb]
def sC (b:cO):List (Nat×List aO):=b.map λa=>(a,[])
theorem n0 (c:cO) (e:List (Nat×List aO)):∀(d:List (Nat×ag)) (b:Nat),gt (kill c e d) b=dJ c e (gt d b)
 |[],b=>by simp[kill,gt,ak,dJ,di,ag.dB,ag.ids]
 |(f,a)::d,b=>by
  show gt ((f,dJ c e a)::kill c e d) b=_;rw[gw,gw];split
  ·rfl
  exact n0 c e d b
theorem kc (b:cO):∀(d:List (Nat×az)) (a:Nat),ak (del b d) a=if a∈b then none else ak d a
 |[],a=>by simp[del,ak]
 |(e,t)::d,a=>by
  have g:=kc b d a;simp only[del] at g|-;rw[k8];cases f:bV e b with
  |true=>
   have:e∈b:=eQ.1 f;simp only[kp,Bool.false_eq_true,if_false];rw[g,bG];by_cases c:e=a
   ·subst c;rw[al this,al this]
   rw[ah c]
  |false=>
   have:e∉b:=λd=>(by rw[eQ.2 d] at f;cases f);simp only[lL,if_true];rw[bG,bG,g];by_cases c:e=a
   ·subst c;rw[al rfl,al rfl,ah this]
   rw[ah c,ah c]
def C0 (a:L.dB n=false):∀id∈L.ids,id∉n:=λid c b=>by have:L.dB n=true:=(by simp only[ag.dB,mE];exact⟨id,c,eQ.2 b⟩);rw[a] at this;cases this
structure kz (C:c8) (st:aB) (w w':World) (I I':Nat->Prop) (rt:Nat->cI) (fp:Nat->cO) (S:cO) (FN:List (Nat×List aO)) (new:List (Nat×az)) (rtn:Nat->cI) (fpn:Nat->cO):Prop where
 size:w.heap.size<=w'.heap.size
 os:w'.os=w.os
 tape:w'.tape=w.tape
 output:w'.output=w.output
 heap:∀b,b<w.heap.size->(∀id∈S,∀t,ak st.h id=some t->b∉fp id)->w'.heap[b]?=w.heap[b]?
 evo:∀b,b<w.heap.size->h0 w w' b
 i:∀b,I b->I' b
 i2:∀b,I' b->I b\/(b<w'.heap.size/\(w.heap.size<=b\/∃id∈S,∃t,ak st.h id=some t/\b∈fp id))
 tree:∀id t,ak new id=some t->(id∈S\/ak st.h id=none)/\aG (aY I' C.B) w' t.1 (rtn id) t.2 (fpn id)/\(fpn id).Nodup/\∀b∈fpn id,¬I' b/\b<w'.heap.size/\(w.heap.size<=b\/∃Fx∈S,∃t',ak st.h Fx=some t'/\b∈fp Fx)
 dis:∀i j t u,ak new i=some t->ak new j=some u->i≠j->∀b∈fpn i,b∉fpn j
 keep:∀e∈FN,∀t,ak st.h e.1=some t->∃t',ak new e.1=some t'/\t'.1=t.1/\rtn e.1=rt e.1/\(∃T1,dn t.1 e.2=some T1)/\∀(q:List aO) (Jm:af) (F5:Loc) (EC:cI),eP e.2 q=true->aJ w t.1 none (rt e.1) q Jm F5 EC->aJ w' t.1 none (rt e.1) q Jm F5 EC
 app:∀e∈FN,∀t,ak st.h e.1=some t->∀(q:List aO) (τ:af) (xs:List τ.den) (loc:Loc) (tU:cI) (f1:cO),ig e.2 q=true->τ.hS=true->aJ w t.1 none (rt e.1) q (.osl τ) loc tU->bN t.1 t.2 q (.osl τ) xs->aG (aY I C.B) w (.osl τ) tU xs f1->∃t',ak new e.1=some t'/\bN t'.1 t'.2 q (.osl τ) xs/\∀b∈f1,b∈fpn e.1/\bB w w' b
def bi.eT {d3:cG} {w':World} {I':Nat->Prop} {rtn:Nat->cI} {fpn:Nat->cO} {S:cO} {keep:List (Nat×List aO)} {new:List (Nat×az)} (j:bi I z d3 e l p q) (r:kz I z e w' l I' p q S keep new rtn fpn):bi I ⟨kill S keep z.g,new++del S z.h⟩ d3 w' I' (de new rtn p) (de new fpn q):=by
 have a0:∀ap a,aY l I.B ap a->aY I' I.B ap a/\bB e w' a:=λap a b=>by
  refine⟨?_,.of_heap (r.heap a (j.ib a (kN b)) (λid _ d f f2=>j.notM f a f2 ap b))⟩;cases ap
  ·exact r.i a b
  exact b.imp (r.i a) id
 have cv:∀id d,ak (new++del S z.h) id=some d->(ak new id=some d/\de new rtn p id=rtn id/\de new fpn q id=fpn id)\/(ak new id=none/\id∉S/\ak z.h id=some d/\de new rtn p id=p id/\de new fpn q id=q id):=λid d f=>by
  rw[hQ,kc] at f;cases A:ak new id with
  |none=>
   rw[A] at f;simp only[Option.none_or] at f;split at f
   ·cases f
   rename_i E;exact .inr ⟨rfl,E,f,by simp[de,A],by simp[de,A]⟩
  |some r=>rw[A] at f;exact .inl ⟨by simpa using f,by simp[de,A],by simp[de,A]⟩
 have cs:∀id d,ak z.h id=some d->id∉S->∀a∈q id,bB e w' a:=λid d f E a b=>.of_heap (r.heap a ((j.tree id d f).2.2 a b).2.2.1 (λM O u L F=>
  j.dis id M d u f L (λc=>E (by rw[c];exact O)) a b F))
 have f0:∀id d,ak z.h id=some d->id∉S->∀a∈q id,¬I' a:=λid d f E a b s=>by
  have m:=(j.tree id d f).2.2 a b;rcases r.i2 a s with s|⟨_,s|⟨M,O,u,L,F⟩⟩
  ·exact m.1 s
  ·omega
  exact j.dis id M d u f L (λc=>E (by rw[c];exact O)) a b F
 refine{n:=j.n,i0:=λa b=>r.i a (j.i0 a b),i1:=?_,ib:=?_,tree:=?_,dis:=?_,tmp:=?_,frame:=?_,evo:=λa b=>(j.evo a b).trans (r.evo a (fF b j.size)),size:=bt j.size r.size,os:=r.os.trans j.os,tape:=r.tape.trans j.tape,output:=r.output.trans j.output,pin:=j.pin}
 ·intro a b;rcases r.i2 a b with b|⟨_,b|⟨M,O,u,L,F⟩⟩
  ·exact j.i1 a b
  ·exact .inr (.inl (bt j.size b))
  exact .inr ((j.tree M u L).2.2 a F).2.2.2
 ·intro a b;rcases b with b|b
  ·rcases r.i2 a b with b|⟨b,_⟩
   ·exact fF (j.ib a (.inl b)) r.size
   exact b
  exact fF (j.ib a (.inr b)) r.size
 ·intro id d f;rcases cv id d f with⟨v,o,x⟩|⟨ft,E,v,o,x⟩
  ·obtain⟨_,aq,D,y⟩:=r.tree id d v;rw[o,x];refine⟨aq,D,λa b=>?_⟩;obtain⟨Z,ad,V⟩:=y a b;rcases V with V|⟨M,O,u,L,F⟩
   ·exact⟨Z,λfT=>by have:=j.ib a (.inr fT);omega,ad,.inl (bt j.size V)⟩
   have m:=(j.tree M u L).2.2 a F;exact⟨Z,m.2.1,ad,m.2.2.2⟩
  obtain⟨aq,D,y⟩:=j.tree id d v;rw[o,x];refine⟨aq.mono a0 (cs id d v E),D,λa b=>?_⟩;obtain⟨Z,ad,V,aP⟩:=y a b;exact⟨f0 id d v E a b,ad,fF V r.size,aP⟩
 ·intro k X d H s f4 el a b;rcases cv k d s with⟨v,_,x⟩|⟨ft,E,v,_,x⟩<;>rcases cv X H f4 with⟨Y,_,fn⟩|⟨hr,f7,Y,_,fn⟩<;>rw[x] at b<;>rw[fn]
  ·exact r.dis k X d H v Y el a b
  ·intro F;rcases((r.tree k d v).2.2.2 a b).2.2 with m|⟨M,O,u,L,co⟩
   ·have:=((j.tree X H Y).2.2 a F).2.2.1;omega
   exact j.dis X M H u Y L (λc=>f7 (by rw[c];exact O)) a F co
  ·intro F;rcases((r.tree X H Y).2.2.2 a F).2.2 with m|⟨M,O,u,L,co⟩
   ·have:=((j.tree k d v).2.2 a b).2.2.1;omega
   exact j.dis k M d u v L (λc=>E (by rw[c];exact O)) a b co
  exact j.dis k X d H v Y el a b
 ·intro a4;show bk _ _ _ _ _ (gt (kill S keep z.g) a4) _;rw[n0];have C:=j.tmp a4;generalize gt z.g a4=w at C;generalize d3.getD a4 undef=N at C;suffices d6:∀(w:ag) (N:Value),bk (aY l I.B) e z.h p q w N->bk (aY I' I.B) w' (new++del S z.h) (de new rtn p) (de new fpn q) (di S keep w) N by
   cases w with
   |dg f8=>
    cases C with|dg ds A=>
    refine .dg (by simp[ds]) (λk av H v o=>?_);rw[gn] at v;obtain⟨d5,x,rfl⟩:=dH.1 v;exact d6 d5 H (A k d5 H x o)
   |_=>exact d6 _ _ C
  clear C;have ce:∀(w:ag) (N:Value),bk (aY l I.B) e z.h p q w N->w.dB S=false\/iQ keep w=true->bk (aY I' I.B) w' (new++del S z.h) (de new rtn p) (de new fpn q) w N:=by
   intro w N C f6;cases a3:w.dB S with
   |false=>
    refine C.pE a0 (λid dl d f=>?_);have E:=C0 a3 id dl;have W:ak new id=none:=by
     cases A:ak new id with
     |none=>rfl
     |some d4=>
      rcases(r.tree id d4 A).1 with m|m
      ·exact absurd m E
      rw[f] at m;cases m
    refine⟨by rw[hQ,W,kc,ah E];simpa using f,by simp[de,W],by simp[de,W],(j.tree id d f).1,cs id d f E⟩
   |true=>
    have P:iQ keep w=true:=f6.resolve_left (by rw[a3];exactλj=>by cases j);have bl:∀(id:Nat) (d:az),ak z.h id=some d->∀c∈keep,c.1=id->∃u,ak (new++del S z.h) id=some u/\u.1=d.1/\de new rtn p id=p id/\(∃gs,dn d.1 c.2=some gs)/\
     ∀(m:List aO) (fs:af) (fp:Loc) (ci:cI),eP c.2 m=true->aJ e d.1 none (p id) m fs fp ci->aJ w' d.1 none (p id) m fs fp ci:=by
     intro id d f c G dl;subst dl;obtain⟨u,aq,D,y,U,R⟩:=r.keep c G _ f;exact⟨u,by rw[hQ,aq];rfl,D,by simp[de,aq,y],U,R⟩
    have d7:∀(id:Nat) (m:List aO),(keep.any λc=>Nat.beq c.1 id&&eP c.2 m)=true->∃c∈keep,c.1=id/\eP c.2 m=true:=(by intro id m A;obtain⟨c,G,o⟩:=mE.1 A;simp only[a5] at o;exact⟨c,G,dW o.1,o.2⟩);cases w with
    |ref id T=>
     cases T with
     |nil=>
      obtain⟨c,G,o⟩:=mE.1 (show(keep.any λc=>Nat.beq c.1 id)=true from P);have o:=dW o;cases C with|ref f J=>
      obtain⟨rfl,rfl,rfl⟩:=aJ.en.1 J;obtain⟨u,aq,D,y,_⟩:=bl id _ f c G o;rw[<-D];refine .ref (loc:=none) aq ?_;rw[y];exact aJ.here
     |cons gl T=>
      obtain⟨c,G,o,x⟩:=d7 id (gl::T) P;cases C with|ref f J=>
      obtain⟨u,aq,D,y,U,R⟩:=bl id _ f c G o;have K:=R _ _ _ _ x J;rw[<-y,<-D] at K;exact .ref aq K
    |addr id T=>
     obtain⟨c,G,o⟩:=mE.1 (show(keep.any λc=>Nat.beq c.1 id&&Bq c.2 T)=true from P);simp only[a5] at o;obtain⟨o,x⟩:=o;have o:=dW o;cases C with|addr f J=>
     obtain⟨u,aq,D,y,U,R⟩:=bl id _ f c G o;rcases Bool.or_eq_true_iff.1 x with x|x
     ·have K:=R _ _ _ _ x J;rw[<-y,<-D] at K;exact .addr aq K
     obtain⟨hv,Q⟩:=zP.1 x;obtain⟨_,U⟩:=U;obtain⟨ci,K⟩:=aJ.upper U Q J R;rw[<-y,<-D] at K;exact .addr aq K
    |view id T hs s=>
     obtain⟨c,G,o,x⟩:=d7 id T P;cases C with|jm=>(exact .jm _ _)|view f J f9 gc ge=>
     obtain⟨u,aq,D,y,U,R⟩:=bl id _ f c G o;have K:=R _ _ _ _ x J;rw[<-y,<-D] at K;exact .view aq K f9 gc ge
    |_=>cases P
  intro w N C;unfold di;cases a3:w.dB S with
  |false=>simp only[Bool.false_and,cond_false];exact ce w N C (.inl a3)
  |true=>
   cases P:hp S keep w with
   |false=>simp only[lL,Bool.and_self,cond_true];exact .dead _
   |true=>
    simp only[kp,Bool.and_false,cond_false];cases w with
    |bZ hc f8=>
     cases C with|bZ ds A=>
     refine .bZ ds (λk av H v o=>ce av H (A k av H v o) ?_);have:=ew.1 P av (j0 v);simpa using this
    |app id m go ic d2=>
     cases C with|app f eq J f3 v hi o d1 ex f5=>
     have Q:((d2.all λk=>!(bV k S))&&keep.any λc=>Nat.beq c.1 id&&ig c.2 m)=true:=P;rw[a5] at Q;obtain⟨am,Q⟩:=Q;have am:∀k∈d2,k∉S:=λk s d0=>(by have:=ew.1 am k s;rw[eQ.2 d0] at this;cases this);obtain⟨c,G,Q⟩:=mE.1 Q;simp only[a5] at Q;obtain⟨f1,d9⟩:=Q;obtain rfl:=dW f1;obtain⟨u,aq,D,y⟩:=r.app c G _ f m go _ _ _ _ d9 eq J f3 v;obtain⟨hw,Z,ad,V,_,gf⟩:=r.keep c G _ f;rw[aq] at Z;obtain rfl:=dp Z;have W:∀k∈d2,ak new k=none:=λk s=>by
      cases A:ak new k with
      |none=>rfl
      |some d4=>
       obtain⟨_,bs,an⟩:=d1 k s;rcases(r.tree k d4 A).1 with m|m
       ·exact absurd m (am k s)
       rw[an] at m;cases m
     have d0:de new rtn p c.1=p c.1:=(by simp only[de,aq,V]);have em:=gf m _ _ _ (yb d9) J;rw[<-ad,<-d0] at em;refine .app (t:=u) (by rw[hQ,aq];rfl) eq em D (v.mono a0 (λa b=>(y a b).2)) (λa b=>by simp only[de,aq];exact(y a b).1) (o.mono a0 (λa b=>?_)) (λk s=>?_) (λa b=>?_) f5
     ·rcases ex a b with b|⟨k,s,b⟩
      ·exact(y a b).2
      obtain⟨_,bs,an⟩:=d1 k s;exact cs k bs an (am k s) a b
     ·obtain⟨fz,bs,an⟩:=d1 k s;exact⟨fz,bs,by rw[hQ,W k s,kc,ah (am k s)];simpa using an⟩
     rcases ex a b with b|⟨k,s,b⟩
     ·exact .inl b
     exact .inr ⟨k,s,by simp only[de,W k s];exact b⟩
    |_=>exact ce _ N C (.inr P)
 intro a b d8;rw[r.heap a (fF b j.size)]
 ·exact j.frame a b d8
 intro id _ d f F;have:=((j.tree id d f).2.2 a F).2.2.2;rcases this with m|m
 ·omega
 exact d8 m
section
def hC (k:bO->Nat->Prop) (i:World) (a:af) (l:Option Addr) (d:List a.den) (g:cD):Prop:=
 g.length=d.length/\(d=[]\/∃e h,l=some ⟨e,h,none⟩/\∀(c:Nat) (j:a.den) (f:cO),d[c]?=some j->g[c]?=some f->∃b,b.length=a.size/\dt i e (h+c*a.size) b/\aG k i a b j f)
def hC.aV {a:List d.den} (b:aG f e (.aV Q d) [.slice r c g] a []):c=a.length/\hC f e d r a (List.replicate a.length []):=by obtain⟨_,q,s,h,_,_,b⟩:=b;simp only[fd,Value.slice.injEq,and_true] at h;obtain⟨rfl,rfl,rfl⟩:=h;refine⟨rfl,ab,b.imp id ?_⟩;rintro⟨l,o,m,_,n⟩;refine⟨l,o,m,λk p t j i=>?_⟩;have:k<a.length:=(ec.1 j).1;rw[lP,al this] at i;obtain rfl:=dp i;exact n k p j
def hC.osl {k:List d.den} (h:aG f e (.osl d) [.slice r g c] k n):g=k.length/\g<=c/\∃i,hC f e d r k i/\(∀j∈i.flatten,j∈n)/\(n.Nodup->i.flatten.Nodup)/\((r=none/\c=0/\n=[])\/∃a b,r=some ⟨a,b,none⟩/\n=a::i.flatten/\gQ e a b (b+c*d.size)):=by
 obtain⟨t,j,l,h⟩:=h;simp only[fd,Value.slice.injEq,and_true] at l;obtain⟨rfl,rfl,rfl⟩:=l;rcases h with⟨rfl,rfl,rfl,rfl⟩|⟨a,b,m,rfl,rfl,aq,p,q,s⟩
 ·exact⟨rfl,a2 _,[],⟨rfl,.inl rfl⟩,ab,ab,.inl ⟨rfl,rfl,rfl⟩⟩
 refine⟨rfl,p,m,⟨aq,.inr ⟨a,b,rfl,s⟩⟩,λj o=>eJ _ o,λh=>(h7.1 h).2,.inr ⟨a,b,rfl,rfl,q⟩⟩
def hC.cells {b:List d.den} {u:cD} (h:hC f e d r b u) (A:0<d.size):∃p:cI,p.length=b.length*d.size/\(∀c∈p,c.oneCell'=true)/\(∀g,r=some g->b≠[]->∀(m:Nat) c,p[m]?=some c->e.cell? (g.add m)=some c)/\∀(j:Nat) (q:d.den) (o:cO),b[j]?=some q->u[j]?=some o->aG f e d ((p.drop (j*d.size)).take d.size) q o:=by
 obtain⟨H,h⟩:=h;rcases h with rfl|⟨g,n,rfl,h⟩
 ·exact⟨[],ab,ab,λ_ _ h=>absurd rfl h,ab⟩
 have x:∀a,a<b.length*d.size->∃c,e.cell? ⟨g,n+a,none⟩=some c/\c.oneCell'=true:=by
  intro a i;have z:a/d.size<b.length:=(Nat.div_lt_iff_lt_mul A).2 i;obtain⟨k,C,s,t⟩:=h (a/d.size) b[a/d.size] (u[a/d.size]'(by omega)) ab ab
  have I:=Nat.mod_lt a A;have:k[a %d.size]?=some (k[a %d.size]'(by omega)):=bA _
  refine⟨_,?_,t.one _ (dj (by omega:a %d.size<k.length))⟩;have:=s _ _ this;rwa[show n+a/d.size*d.size+a %d.size=n+a by have:=qe a d.size;rw[hj] at this;omega] at this
 have y:∀a,((List.range (b.length*d.size)).map λa=>(e.cell? ⟨g,n+a,none⟩).getD undef)[a]?=if a<b.length*d.size then e.cell? ⟨g,n+a,none⟩ else none:=by
  intro a;rw[gn];by_cases i:a<b.length*d.size
  ·rw[al i,wl i];obtain⟨c,w,_⟩:=x a i;simp[w]
  rw[ah i,hD (by simp;omega)];rfl
 refine⟨(List.range (b.length*d.size)).map λa=>(e.cell? ⟨g,n+a,none⟩).getD undef,ab,?_,?_,?_⟩
 ·intro c w;obtain⟨a,i,rfl⟩:=c4.1 w;obtain⟨J,F,v⟩:=x a (ha.1 i);simpa[F] using v
 ·intro G D _ m c l;cases D;rw[y] at l;split at l
  ·rw[Addr.add_lit];exact l
  cases l
 intro j q o B E;obtain⟨k,C,s,t⟩:=h j q o B E;have z:j<b.length:=(ec.1 B).1;have:(((List.range (b.length*d.size)).map λa=>(e.cell? ⟨g,n+a,none⟩).getD undef).drop (j*d.size)).take d.size=k:=by
  apply h4;intro m;rcases bj m d.size with l|l
  ·rw[ks l,jX,y];have v:(j+1)*d.size<=b.length*d.size:=dG _ z;rw[e2,fG] at v;rw[al U];have:k[m]?=some (k[m]'(by omega)):=bA _
   rw[this,<-Nat.add_assoc];exact s _ _ this
  rw[hD (by simp;omega),hD U]
 rw[this];exact t
section
variable {P:Program}
def Ku {w:World} {ty:TypeId} {j:TypeInfo} (r:P.underlying H=some (.slice a)) (C:dm P d a) (i:P.info? a=some j) (a3:d.size<=1300) {ad yd:Option Addr} {n cap m c:Nat} {olds news:cI} (F:olds.length=n*d.size) (an:∀b,ad=some b->∀(e:Nat) (f:Value),olds[e]?=some f->w.cell? (b.add e)=some f) (ap:∀b,ad=some b->b.spot=none) (L:n<=cap) (Q:ad=none->cap=0) (s:news.length=m*d.size) (B:∀f∈news,f.oneCell'=true) (E:∀b,yd=some b->0<m->∀(e:Nat) (f:Value),news[e]?=some f->w.cell? (b.add e)=some f) (R:yd=none->m=0) (N:∀b,ad=some b->gQ w b.block b.off (b.off+cap*d.size)) (O:n+m<=fh):∃I q,(Builtin.append_ #[H,H] ty #[.slice ad n cap,.slice yd m c]).run P w=.ok I q/\((
   n+m<=cap/\I=.slice ad (n+m) cap/\((ad=none/\q=w)\/∃b,ad=some b/\q=w.setCells b.block (b.off+n*d.size) news))\/
   ∃(g:Nat) (z:cG),cap<n+m/\n+m<=g/\I=.slice (some ⟨w.heap.size,0,none⟩) (n+m) g/\fu w q/\q.heap[w.heap.size]?=some (.cells z a (0,0))/\q.heap.size=w.heap.size+1/\g*d.size<=z.size/\∀(e:Nat) (f:Value),(olds++news)[e]?=some f->z[e]?=some f):=by
 obtain⟨a4,_,h,_⟩:=C.info;have J:=h.info;rw[i] at J;cases J;have a0:=C.pos;by_cases x:n+m<=cap
 ·by_cases o:m=0
  ·subst o;obtain rfl:news=[]:=k7 (by simpa using s);have M:(Builtin.firstCells d.size 0 (.slice yd 0 c)).run P w=.ok #[] w:=by
    cases yd with
    |none=>rfl
    |some b=>simp[Builtin.firstCells,loadCells,loadCellsFrom]
   refine⟨.slice ad n cap,w,?_,.inl ⟨x,rfl,?_⟩⟩
   ·cases ad with
    |none=>simp[Builtin.append_,run_underlying r,sizeOf,typeInfo,i,Builtin.lenOf,h.size,L,M]
    |some b=>simp[Builtin.append_,run_underlying r,sizeOf,typeInfo,i,Builtin.lenOf,h.size,L,M,storeCells]
   cases ad with
   |none=>exact .inl ⟨rfl,rfl⟩
   |some b=>exact .inr ⟨b,rfl,rfl⟩
  cases ad with
  |none=>have:=Q rfl;omega
  |some b=>
   cases yd with
   |none=>exact absurd (R rfl) o
   |some k=>
    obtain⟨S,T,V⟩:=b;obtain rfl:V=none:=ap _ rfl;have Z:(n+m)*d.size<=cap*d.size:=dG _ x;rw[e2] at Z;have p:=run_append_room_cells (P:=P) w H ty a j r i S T n cap k m c news (by rw[h.size];exact s) (E k rfl U) B x (λe v=>(N _ rfl _ (by rw[h.size];simp only;omega) (by rw[h.size];simp only;omega)).1) (λe v=>(N _ rfl _ (by rw[h.size];simp only;omega) (by rw[h.size];simp only;omega)).2);rw[h.size] at p;exact⟨_,_,p,.inl ⟨x,rfl,.inr ⟨_,rfl,rfl⟩⟩⟩
 obtain⟨l,av,y⟩:=C.Be;have y:=y j i;have o:0<m:=U;cases yd with
 |none=>have:=R rfl;omega
 |some k=>
  have K:(n+m)*j.bytes<=140737488355328:=(by have B:(n+m)*j.bytes<=fh*31200:=hH O (by have:=h.bytes;omega);unfold fh at B;omega);have D:((n+m:Nat):Int)<=9223372036854775807:=(by unfold fh at O;omega);have A:∀(G:Nat),let g:=grownCap w (n+m) G a
   n+m<=g/\fu w (w.drew.alloc (.cells (olds.toArray++news.toArray++Builtin.zeroCells l.cells (g-(n+m))) a))/\
   (w.drew.alloc (.cells (olds.toArray++news.toArray++Builtin.zeroCells l.cells (g-(n+m))) a)).heap[w.heap.size]?=some (.cells (olds.toArray++news.toArray++Builtin.zeroCells l.cells (g-(n+m))) a (0,0))/\
   g*d.size<=(olds.toArray++news.toArray++Builtin.zeroCells l.cells (g-(n+m))).size/\
   ∀(e:Nat) (f:Value),(olds++news)[e]?=some f->(olds.toArray++news.toArray++Builtin.zeroCells l.cells (g-(n+m)))[e]?=some f:=by
   intro G g;have X:n+m<=g:=grownCap_ge w (n+m) G a;refine⟨X,(fu.refl w).drew.trans (fu.alloc _ _),heap_alloc_new w.drew _,?_,?_⟩
   ·simp only[Array.size_append,oI,size_zeroCells,av,F,s,<-e2];refine dG _ ?_;omega
   intro e f v;have Y:e<(olds++news).length:=(ec.1 v).1;rw[Array.getElem?_append,al (by simpa using Y)];simpa using v
  cases ad with
  |some b=>
   have p:=run_append_grow (P:=P) w H ty a j l r i y b n cap olds (by rw[h.size];exact F) (an b rfl) k m c news (by rw[h.size];exact s) (E k rfl o) U D (growslice_fits U K);obtain⟨t,f2,u,f4,f5⟩:=A cap;exact⟨_,_,p,.inr ⟨_,_,U,t,rfl,f2,u,ab,f4,f5⟩⟩
  |none=>
   have W:=Q rfl;have am:n=0:=U;subst W;subst am;obtain rfl:olds=[]:=k7 (by simpa using F);simp only[h8] at D K A;have p:=run_append_nil (P:=P) w H ty a j l r i y k m c news (by rw[h.size];exact s) (E k rfl o) o D U;obtain⟨t,f2,u,f4,f5⟩:=A 0;simp only[hb,Array.empty_append] at t f2 u f4 f5;refine⟨_,_,p,.inr ⟨_,_,U,by rw[h8];exact t,by rw[h8],f2,u,ab,f4,f5⟩⟩
end
end
def vS (b:Nat):∀(h:cI) (e:Nat) (c:World) (a:Nat),a≠b->(c.setCells b e h).heap[a]?=c.heap[a]?
 |[],_,_,_,_=>rfl
 |v::g,e,c,a,d=>by rw[World.setCells,vS b g _ _ a d];simp only[World.setCell,tm];rw[ah (λf=>d f.symm)]
def s7 (b:Nat):∀(e:cI) (c:Nat) (a:World),(a.setCells b c e).heap.size=a.heap.size
 |[],_,_=>rfl
 |v::d,c,a=>by rw[World.setCells,s7 b d];simp
def nc (b:Nat):∀(d:cI) (c:Nat) (a:World),(a.setCells b c d).os=a.os/\(a.setCells b c d).tape=a.tape/\(a.setCells b c d).output=a.output
 |[],_,_=>⟨rfl,rfl,rfl⟩
 |v::e,c,a=>by rw[World.setCells];exact nc b e _ _
def CH (c:Nat) (e:cI) (a:Nat) (f:World) (g:∀b,b<e.length->(f.cell? ⟨c,a+b,none⟩).isSome=true) (d:Nat):((f.setCells c a e).cell? ⟨c,d,none⟩).isSome=(f.cell? ⟨c,d,none⟩).isSome:=by
 by_cases h:a<=d/\d<a+e.length
 ·obtain⟨b,rfl⟩:∃b,d=a+b:=⟨d-a,U⟩;rw[World.cell?_setCells_in c e a f g b U,g b U];rfl
 rw[World.cell?_setCells_out c e a f _ (λ_ _=>by simp only;omega)]
def Oi (c:World) (a:Addr) (f:Value) (b:Nat):gx (c.setCell a f) b=gx c b:=by
 unfold gx World.setCell;simp only[tm];by_cases d:a.block=b
 ·subst d;simp only[if_true];cases c.heap[a.block]? with
  |none=>rfl
  |some e=>cases e<;>rfl
 simp only[ah d]
def vj (d:Nat):∀(f:cI) (b:Nat) (c:World) (a:Nat),gx (c.setCells d b f) a=gx c a
 |[],_,_,_=>rfl
 |v::e,b,c,a=>by rw[World.setCells,vj d e (b+1),Oi]
def oj {vs:cI} {o:Nat} {w:World} (a:g≠c):bB w (w.setCells c o vs) g:=.of_heap (vS c vs o w g a)
def DT {P:Program} {ty:TypeId} {f9:TypeInfo} (ex:P.underlying H=some (.slice a)) (cs:dm P d a) (f0:P.info? a=some f9) (f7:d.size<=1300) {c:Nat} {s M:List d.den} {K:cO} {u:cD} (am:aG f e (.osl d) [.slice r N g] s K) (bs:hC f e d T M u) (a3:K.Nodup) (em:∀i∈K,∀p,¬f p i) (f6:u.flatten.Nodup) (ds:∀i∈K,i∉u.flatten) (eq:∀p i,f p i->i<e.heap.size) (a0:∀i∈K,i<e.heap.size) (ce:∀i∈u.flatten,i<e.heap.size) (f3:s.length+M.length<=fh):∃ci q f2,(Builtin.append_ #[H,H] ty #[.slice r N g,.slice T M.length c]).run P e=.ok ci q/\aG f q (.osl d) [ci] (s++M) f2/\aG f q (.osl d) [.slice r N g] s K/\f2.Nodup/\(∀i∈f2,i∈K\/i∈u.flatten\/(e.heap.size<=i/\i<q.heap.size))/\e.heap.size<=q.heap.size/\q.os=e.os/\q.tape=e.tape/\q.output=e.output/\(∀i,i<e.heap.size->i∉K->q.heap[i]?=e.heap[i]?)/\(∀p i,f p i->bB e q i)/\(∀i∈u.flatten,bB e q i)/\(∀i,i<e.heap.size->gx q i=gx e i):=by
 obtain⟨rfl,dl,F,d6,Y,ft,W⟩:=hC.osl am;have d3:=cs.pos;obtain⟨J,R,hs,d7,go⟩:=d6.cells d3;obtain⟨z,gc,ge,gf,gl⟩:=bs.cells d3;have Z:=d6.1;have d1:=bs.1;obtain⟨ci,q,bl,fp⟩:=Ku (P:=P) (w:=e) (ty:=ty) ex cs f0 f7 (ad:=r) (yd:=T) (n:=s.length) (cap:=g) (m:=M.length) (c:=c) (olds:=J) (news:=z) R (λi v k A l=>d7 i v (by rintro rfl;simp at R;subst R;simp at l) k A l) (λi v=>by rcases W with⟨t,_⟩|⟨o,x,t,_⟩<;>rw[v] at t<;>cases t;rfl) dl (λt=>by rcases W with⟨_,h,_⟩|⟨o,x,h,_⟩;exact h;rw[t] at h;cases h) gc ge (λi v f4 k A l=>gf i v (by rintro rfl;simp at f4) k A l) (λt=>by rcases bs.2 with rfl|⟨i,hr,h,_⟩;rfl;rw[t] at h;cases h) (λi v=>by
   rcases W with⟨t,_⟩|⟨o,x,t,_,X⟩
   ·rw[v] at t;cases t
   rw[v] at t;cases t;exact X) f3
 have S:(F++u).flatten=F.flatten++u.flatten:=ab;have d2:(F++u).flatten.Nodup:=(by rw[S,hu];exact⟨ft a3,f6,λco fn i v E=>ds co (Y co fn) (E▸v)⟩);have av:∀(b:Nat) (G:d.den) (y:cO),(s++M)[b]?=some G->(F++u)[b]?=some y->aG f e d (((J++z).drop (b*d.size)).take d.size) G y/\∀i∈y,i∈F.flatten\/i∈u.flatten:=by
  intro b G y j C;rcases bj b s.length with h|h
  ·rw[k9 h] at j;rw[k9 U] at C;have B:(b+1)*d.size<=s.length*d.size:=dG _ h;rw[e2,fG] at B;rw[p9 U,qd (by simp;omega)];exact⟨go b G y j C,λi v=>.inl (hE.2 ⟨y,j0 C,v⟩)⟩
  rw[lO h] at j;rw[lO U,Z] at C;have B:s.length*d.size<=b*d.size:=dG _ h;rw[List.drop_append,qa U,hb,R,show b*d.size-s.length*d.size=(b-s.length)*d.size by rw[Nat.sub_mul]];exact⟨gl _ G y j C,λi v=>.inr (hE.2 ⟨y,j0 C,v⟩)⟩
 rcases fp with⟨d4,rfl,f8⟩|⟨d8,d9,hc,fz,rfl,I,fT,hi,gt,fs⟩
 ·rcases f8 with⟨rfl,rfl⟩|⟨i,rfl,rfl⟩
  ·have gs:g=0:=by rcases W with⟨_,h,_⟩|⟨o,x,h,_⟩;exact h;cases h
   obtain rfl:s=[]:=k7 U;obtain rfl:M=[]:=k7 U;exact⟨_,q,K,bl,by simpa using am,am,a3,λi v=>.inl v,a2 _,rfl,rfl,rfl,λ_ _ _=>rfl,λ_ _ _=>bB.refl _ _,λ_ _=>bB.refl _ _,λ_ _=>rfl⟩
  rcases W with⟨t,_⟩|⟨o,x,t,rfl,X⟩
  ·cases t
  cases t;have an:o∉F.flatten:=(h7.1 a3).1;have ap:o∉u.flatten:=ds o ab;have f5:(s.length+M.length)*d.size<=g*d.size:=dG _ d4;rw[e2] at f5;have d5:∀k,k<z.length->(e.cell? ⟨o,x+s.length*d.size+k,none⟩).isSome=true:=λk l=>(X _ U U).1;have Q:∀p b,f p b->f p b/\bB e (e.setCells o (x+s.length*d.size) z) b:=λp b j=>⟨j,oj (λE=>em o ab p (E▸j))⟩;have d0:gQ (e.setCells o (x+s.length*d.size) z) o x (x+g*d.size):=λk B O=>(by rw[CH o z _ e d5,World.frozen?_setCells];exact X k B O);have cv:∀k A,(J++z)[k]?=some A->(e.setCells o (x+s.length*d.size) z).cell? ⟨o,x+k,none⟩=some A:=by
   intro k A l;rcases bj k J.length with h|h
   ·rw[k9 h] at l;rw[World.cell?_setCells_out o z _ e _ (λ_ _=>by simp only;omega)];have:=d7 ⟨o,x,none⟩ rfl (by rintro rfl;simp at R;subst R;simp at h) k A l;rwa[Addr.add_lit] at this
   rw[lO h] at l;obtain⟨D,rfl⟩:∃D,k=J.length+D:=⟨k-J.length,U⟩;rw[lS] at l;have L:D<z.length:=(ec.1 l).1;rw[R,<-Nat.add_assoc,World.cell?_setCells_in o z _ e d5 D L];rw[bA L] at l;exact l
  refine⟨_,_,o::(F++u).flatten,bl,?_,?_,?_,?_,by rw[s7];exact a2 _,(nc _ _ _ _).1,(nc _ _ _ _).2.1,(nc _ _ _ _).2.2,?_,λp b j=>(Q p b j).2,λb j=>oj (λE=>ap (by have el:b=o:=E;rw[<-el];exact j)),λb _=>vj _ _ _ _ _⟩
  ·refine⟨some ⟨o,x,none⟩,g,ab,.inr ⟨o,x,F++u,rfl,rfl,by simp[Z,d1],by simpa using d4,d0,λb G y j C=>?_⟩⟩;obtain⟨B,O⟩:=av b G y j C;refine⟨_,B.len,λk A l=>?_,B.mono Q (λD L=>oj (λE=>?_))⟩
   ·have V:(J++z)[b*d.size+k]?=some A:=by
     rw[rJ] at l;split at l
     ·rwa[jX] at l
     cases l
    rw[Nat.add_assoc];exact cv _ _ V
   subst E;rcases O D L with h|h
   ·exact an h
   exact ap h
  ·refine⟨some ⟨o,x,none⟩,g,rfl,.inr ⟨o,x,F,rfl,rfl,Z,dl,d0,λb G y j C=>?_⟩⟩;have f1:b<s.length:=(ec.1 j).1;obtain⟨B,O⟩:=av b G y (by rw[k9 f1];exact j) (by rw[k9 U];exact C);refine⟨_,B.len,λk A l=>?_,B.mono Q (λD L=>oj (λE=>?_))⟩
   ·have V:(J++z)[b*d.size+k]?=some A:=by
     rw[rJ] at l;split at l
     ·rwa[jX] at l
     cases l
    rw[Nat.add_assoc];exact cv _ _ V
   subst E;exact an (hE.2 ⟨y,j0 C,L⟩)
  ·rw[h7,S];exact⟨by simp[an,ap],S▸d2⟩
  ·intro b j;rcases dk.1 j with rfl|j
   ·exact .inl ab
   rw[S] at j;rcases eI.1 j with h|h
   ·exact .inl (eJ _ h)
   exact .inr (.inl h)
  intro b _ j;exact vS o _ _ _ b (λE=>j (E▸by simp))
 have Q:∀p b,f p b->f p b/\bB e q b:=λp b j=>⟨j,.of_heap (I.heap b (eq p b j))⟩;have a4:∀k,q.cell? ⟨e.heap.size,k,none⟩=d9[k]?/\q.frozen? ⟨e.heap.size,k,none⟩=false:=λk=>(by simp[World.cell?,World.frozen?,fT]);refine⟨_,q,e.heap.size::(F++u).flatten,bl,?_,am.mono Q (λb j=>.of_heap (I.heap b (a0 b j))),?_,?_,I.size,I.os,I.tape,I.output,λb j _=>I.heap b j,λp b j=>(Q p b j).2,λb j=>.of_heap (I.heap b (ce b j)),λb j=>(bB.of_heap (I.heap b j)).2⟩
 ·refine⟨some ⟨e.heap.size,0,none⟩,d8,ab,.inr ⟨e.heap.size,0,F++u,rfl,rfl,by simp[Z,d1],by simpa using fz,λk _ O=>?_,λb G y j C=>?_⟩⟩
  ·rw[(a4 k).1,(a4 k).2];exact⟨by simp;omega,rfl⟩
  obtain⟨B,O⟩:=av b G y j C;refine⟨_,B.len,λk A l=>?_,B.mono Q (λD L=>.of_heap (I.heap D ?_))⟩
  ·rw[(a4 _).1];have V:(J++z)[b*d.size+k]?=some A:=by
    rw[rJ] at l;split at l
    ·rwa[jX] at l
    cases l
   rw[h8];exact fs _ _ V
  rcases O D L with h|h
  ·exact a0 D (Y D h)
  exact ce D h
 ·rw[h7];refine⟨λh=>?_,d2⟩;rw[S] at h;rcases eI.1 h with h|h
  ·have:=a0 _ (Y _ h);omega
  have:=ce _ h;omega
 intro b j;rcases dk.1 j with rfl|j
 ·exact .inr (.inr ⟨a2 _,U⟩)
 rw[S] at j;rcases eI.1 j with h|h
 ·exact .inl (Y b h)
 exact .inr (.inl h)
section
def df.get:∀{p:List aO} {b:af} {c j:b.den} {e:af} {k:e.den},df b c p e k j->∃d,bN b c p e d
 |[],b,c,_,_,_,a=>by obtain⟨rfl,_⟩:=df.en.1 a;exact⟨c,bN.en.2 ⟨rfl,rfl⟩⟩
 |s::p,b,_,_,_,_,a=>by
  cases b<;>cases s<;>simp only[df] at a
  case osl.idx=>obtain⟨g,f,i,a,_⟩:=a;obtain⟨d,h⟩:=df.get (p:=p) a;exact⟨d,g,i,h⟩
  case optr.deref=>exact df.get (p:=p) a
  case st.unst=>exact df.get (p:=p) a
  case pr.fst=>obtain⟨f,a,_⟩:=a;exact df.get (p:=p) a
  case pr.snd=>obtain⟨f,a,_⟩:=a;exact df.get (p:=p) a
def df.same:∀{p:List aO} {c:af} {b:c.den} {d:af} {g:d.den},bN c b p d g->df c b p d g b
 |[],c,b,_,_,a=>by obtain⟨rfl,rfl⟩:=bN.en.1 a;exact df.en.2 ⟨rfl,rfl⟩
 |s::p,c,b,_,_,a=>by
  cases c<;>cases s<;>simp only[bN] at a
  case osl.idx i=>
   obtain⟨e,f,a⟩:=a;refine⟨e,e,f,df.same (p:=p) a,?_⟩;obtain⟨h,rfl⟩:=ec.1 f;exact(List.set_getElem_self h).symm
  case optr.deref=>exact df.same (p:=p) a
  case st.unst=>exact df.same (p:=p) a
  case pr.fst=>exact⟨b.1,df.same (p:=p) a,rfl⟩
  case pr.snd=>exact⟨b.2,df.same (p:=p) a,rfl⟩
def yP {a:y} {b:Nat->y}:de [(c,C)] (λ_=>a) b c=a:=by simp[de,bG]
section
variable {E:dz} {C:c8} {st:aB} {a:Act} {A:cG} {w:World} {I:Nat->Prop} {rt:Nat->cI} {fp:Nat->cO} {o:Oper}
def Sr (j:i.length=N) (f:gQ w g c (c+N)) (d:Nat):oB w (w.setCells g c i) (some (g,c)) N d:=by
 have h:∀a,a<i.length->(w.cell? ⟨g,c+a,none⟩).isSome=true:=λa e=>(f _ U U).1;refine⟨λa e=>World.cell?_setCells_out g i c w _ (λb _=>?_),λa=>World.frozen?_setCells _ _ _ _ _,λa=>?_,vj _ _ _ _ _⟩
 ·have b:d=g:=b;have:=e c (by rw[b]);simp only;omega
 by_cases b:d=g
 ·subst b;exact CH d i c w h a
 rw[((oj (w:=w) (o:=c) (vs:=i) b).1 a).1]
def bi.SZ (u:bi C st A w I rt fp) {id:Nat} {p:az} (r:ak st.h id=some p) {P:cI} (ad:aJ w p.1 none (rt id) m d (some (c,N)) P) {D:d.den} {v:p.1.den} (J:df p.1 p.2 m d D v) {s:cO} (K:aG (aY I C.B) w d i D s) (d9:s.Nodup) (cv:id∉n) (d4:∀a∈s,(∃F,∃a0:d.den,d.hS=true/\aG (aY I C.B) w d P a0 F/\a∈F)\/∃e∈n,∃j,ak st.h e=some j/\a∈fp e):gQ w c N (N+d.size)/\∃rtn fpn,bi C ⟨kill (id::n) [(id,m)] st.g,(id,⟨p.1,v⟩)::del (id::n) st.h⟩ A (w.setCells c N i) I rtn fpn/\rtn id=rt id/\aJ (w.setCells c N i) p.1 none (rt id) m d (some (c,N)) i:=by
 obtain⟨em,an,d1⟩:=u.tree id p r;obtain⟨a0,d5⟩:=J.get;obtain⟨gl,f9,a3,av,a4,bl,bs,x,ce,ci,co⟩:=u3 m (loc:=none) em (λ_ _ b=>by cases b) an (λ_ _ b=>by cases b) (u.notM r) d5;obtain⟨_,ai,E⟩:=ad.hn a4;subst ai;subst E;obtain⟨_,G⟩:=bs c N rfl;have T:c∈av:=by
  rcases ce c N rfl with⟨ap,b,_⟩|b
  ·cases b
  exact b
 have R:c∈fp id:=x.mem_iff.2 (by simp[T]);have am:=x.nodup_iff.1 an;rw[hu] at am;obtain⟨ge,H,d7⟩:=am;have V:∀a∈s,a∈a3\/∃e∈n,∃j,ak st.h e=some j/\a∈fp e:=λa f=>by
  rcases d4 a f with⟨F,gt,d0,eq,b⟩|b
  ·rw[<-aG.uniq d0 bl eq] at b;exact .inl b
  exact .inr b
 have el:∀e∈n,∀j,ak st.h e=some j->∀a∈fp e,a∉fp id:=λe l j k a f z=>u.dis e id j p k r (λo=>cv (o▸l)) a f z;have X:∀a∈s,a∉av:=λa f z=>by
  rcases V a f with b|⟨e,l,j,k,b⟩
  ·exact d7 a b a z rfl
  exact el e l j k a b (x.mem_iff.2 (by simp[z]))
 have cs:∀y a,aY I C.B y a->a≠c:=λy a f o=>u.notM r c R y (o▸f);have d2:=Sr (w:=w) K.len G;have ft:aG (aY I C.B) (w.setCells c N i) d i D s:=K.mono (λy a f=>⟨f,oj (cs y a f)⟩) (λa f=>oj (λo=>X a f (by rw[o];exact T)));have fn:∀t,t<i.length->(w.cell? ⟨c,N+t,none⟩).isSome=true:=λt q=>(G _ U (by have:=K.len;omega)).1;have ds:dt (w.setCells c N i) c N i:=λt f5 q=>(by have Z:t<i.length:=(ec.1 q).1;rw[World.cell?_setCells_in c i N w fn t Z];rw[bA Z] at q;exact q);obtain⟨gc,Q,fT,_,f1,_,L,f3,f0⟩:=ci (w.setCells c N i) (aY I C.B) i D s v (λ_ _ b=>b) (λa _=>d2 a) ft (λb=>by cases b) (λf7 go o=>by simp only[bH,e9] at o;obtain⟨rfl,rfl⟩:=o;exact ds) J;obtain rfl:=f1 rfl (.inl ab);have d3:∀a∈Q,a∈fp id\/∃e∈n,∃j,ak st.h e=some j/\a∈fp e:=λa f=>by
  rcases eI.1 (L.mem_iff.1 f) with b|b
  ·rcases V a b with b|b
   ·exact .inl (x.mem_iff.2 (by simp[b]))
   exact .inr b
  exact .inl (x.mem_iff.2 (by simp[b]))
 have dl:=u.eT (S:=id::n) (keep:=[(id,m)]) (new:=[(id,⟨p.1,v⟩)]) (rtn:=λ_=>rt id) (fpn:=λ_=>Q) (w':=w.setCells c N i) (I':=I) ⟨?_,(nc _ _ _ _).1,(nc _ _ _ _).2.1,(nc _ _ _ _).2.2,?_,λa _=>.of_eq (vj _ _ _ _ _),λ_ b=>b,λ_ b=>.inl b,?_,?_,?_,?_⟩
 ·exact⟨G,_,_,dl,by rw[yP],f3⟩
 ·rw[s7];exact a2 _
 ·intro a _ f;exact vS c _ _ _ a (λo=>f id ab p r (o▸R))
 ·intro e j k;rw[bG] at k;split at k
  ·rename_i o;subst o;cases k;refine⟨.inl ab,fT,?_,λa f=>?_⟩
   ·rw[L.nodup_iff,hu];exact⟨d9,H,λf6 fs hc fz o=>X f6 fs (o▸fz)⟩
   rcases d3 a f with b|⟨e,l,j,k,b⟩
   ·obtain⟨aq,M,O,f4⟩:=d1 a b;exact⟨aq,by rw[s7];exact O,.inr ⟨id,ab,p,r,b⟩⟩
   obtain⟨aq,M,O,f4⟩:=(u.tree e j k).2.2 a b;exact⟨aq,by rw[s7];exact O,.inr ⟨e,by simp[l],j,k,b⟩⟩
  cases k
 ·intro e t j f5 l q d6;rw[bG] at l q;split at l
  ·split at q
   ·rename_i ai E;exact absurd (ai.symm.trans E) d6
   cases q
  cases l
 ·intro e l j k;simp only[eV] at l;subst l;rw[r] at k;obtain rfl:=dp k;refine⟨⟨p.1,v⟩,?_,rfl,rfl,⟨_,ad.ty⟩,f0⟩;rw[bG,al rfl]
 intro e l j k ap hi gs gf f8 f2 W d8 H Y ex;simp only[eV] at l;subst l;rw[r] at k;obtain rfl:=dp k;refine⟨⟨p.1,v⟩,by rw[bG,al rfl],qG W J Y,λa f=>?_⟩;obtain⟨aq,M⟩:=co ap _ _ _ _ _ W (by exact d8) Y H ex a f;exact⟨L.mem_iff.2 (ku _ aq),oj (M _ _ rfl)⟩
def bi.store (s:bi C st A w I rt fp) {id:Nat} {a:az} (z:ak st.h id=some a) {j:cI} (v:aJ w a.1 none (rt id) m d (some (N,c)) j) {p:d.den} {o:a.1.den} (y:df a.1 a.2 m d p o) {S2:cO} (D:aG (aY I C.B) w d i p n) (x:n.Nodup) (t:id∉S2) (u:∀f∈n,(∃k,∃F:d.den,d.hS=true/\aG (aY I C.B) w d j F k/\f∈k)\/∃l∈S2,∃E,ak st.h l=some E/\f∈fp l):gQ w N c (c+d.size)/\∃e b,bi C ⟨kill (id::S2) [(id,m)] st.g,(id,⟨a.1,o⟩)::del (id::S2) st.h⟩ A (w.setCells N c i) I e b:=by obtain⟨q,e,b,r,_⟩:=s.SZ z v y D x t u;exact⟨q,e,b,r⟩
inductive rR where
 |dc (s:aB)
 |part (α:Type) (φ:α->Prop) (f:α->aB)
 |bad
def rR.K (c:rR) (Q:aB->Prop):Prop:=
 match c with
 |.dc d=>Q d
 |.part e f b=>∃a:e,f a/\Q (b a)
 |.bad=>False
def c5 (E:dz) (C:c8) (o:Oper) (st:aB) (Q:aB->Prop):Prop:=
 ∀(a:Act) (w:World),ez C st a.tmps w->∀(next:Act->World->Prop) (e:Exit->Act->World->Prop),(∀c b d,Q c->b.defers=a.defers->ez C c b.tmps d->next b d)->o.wp E.P a w next e
variable {Q:aB->Prop}
def c5.eval {an:List (Nat×af)} (j:o.dst=some c) (l:C.ok c) (i:(eE E.tt an st.h (aI st.g) c o.op).K (λb e=>Q ⟨(c,b)::st.g,e++st.h⟩)):c5 E C o st Q:=by
 rintro a w ⟨I,rt,fp,d⟩ next r m
 exact(L6 d i).wp d j l (λb e f q n k p=>m _ f q n k p)
def oe (b:List (Nat×az)) (c:ag):Option (Nat×List aO):=
 match c with
 |.addr id a=>some (id,a)
 |.ref id a=>match ak b id with
  |some ⟨d,_⟩=>match dn d a with
   |some (.optr _)=>some (id,a++[.deref])
   |_=>none
  |none=>none
 |_=>none
def zt (
 tt:List (TypeId×af)) (st:aB) (m:TypeId) (o v:ag):rR:=
 match oe st.h o with
 |none=>.bad
 |some (
  id,p)=>match ak st.h id,ak tt m with
  |some ⟨b,e⟩,some n=>match dn b p with
   |none=>.bad
   |some c=>bif aT n c then match v with
    |.ref d i=>match ak st.h d with
     |some ⟨r,j⟩=>bif Nat.beq id d then .bad else
      .part (c.den×b.den) (λa=>bN r j i c a.1/\df b e p c a.1 a.2) (λa=>⟨kill [id,d] [(id,p)] st.g,(id,⟨b,a.2⟩)::del [id,d] st.h⟩)
     |none=>.bad
    |.app d i f q l=>if _e:c=.osl f then
     .part (List f.den×b.den) (λa=>d=id/\i=p/\bN b e p (.osl f) a.1/\df b e p (.osl f) (a.1++q) a.2) (λa=>⟨kill (id::l) [(id,p)] st.g,(id,⟨b,a.2⟩)::del (id::l) st.h⟩) else .bad
    |v=>match coe c v with
     |some j=>.part b.den (λk=>df b e p c j k) (λk=>⟨kill [id] [(id,p)] st.g,(id,⟨b,k⟩)::del [id] st.h⟩)
     |none=>.bad
   else .bad
  |_,_=>.bad
def Rp (o:bi C st a.tmps w I rt fp) {id:Nat} (c:oe st.h (aI st.g b)=some (id,m)) {n:az} (k:ak st.h id=some n) (r:dn n.1 m=some d):∃j s t,a.eval b=.pointer (some ⟨j,s,none⟩)/\aJ w n.1 none (rt id) m d (some (j,s)) t:=by
 have i:=o.aI b;unfold oe at c;generalize D:a.eval b=F at i;split at c
 ·rename_i z B l;cases c;rw[l] at i;cases i with|addr f e=>
  rw[k] at f;cases f;have:=e.ty;rw[r] at this;cases this;exact⟨_,_,_,rfl,e⟩
 ·rename_i z B l;split at c
  case h_2=>cases c
  rename_i H G q;split at c
  case h_2=>cases c
  rename_i E y;cases c;rw[k] at q;cases q;rw[l] at i;cases i with|ref f e=>
  rw[k] at f;cases f;have:=e.ty;rw[y] at this;cases this;obtain⟨j,A,x,rfl,u,v⟩:=mh (o.tree id _ k).1 e;have p:=e.append (aJ.AE u v);have:=p.ty;rw[r] at this;cases this;exact⟨j,A,x,rfl,p⟩
 cases c
def SY (l:ak E.tt H=some d) (p:aT d R=true) (q:o.op=.store H h b) (t:a.eval h=.pointer (some ⟨g,c,none⟩)) (s:(a.eval b).cells=i.toArray) (m:i.length=R.size) (k:∀b∈i,b.oneCell'=true) (f:gQ w g c (c+R.size)):(execOp a.eval o).run E.P w=.ok .skip (w.setCells g c i):=by have r:=(E.ok H d l).lay p;have j:=run_storeCells_cells (P:=E.P) g c i 0 w (λe n=>by simpa using(f (c+e) U U).1) (λe n=>by simpa using(f (c+e) U U).2) k;simp only[lT] at j;have:(storeVar H ⟨g,c,none⟩ (a.eval b)).run E.P w=.ok () (w.setCells g c i):=(by simp only[storeVar,s,Sem.run_bind,r.sizeOf,Result.andThen_ok];simpa[m] using j);simp[execOp,q,t,Instr.storeAt,Instr.sureAddr,this]
theorem SX (d3:o.op=.store H h b) (bs:o.dst=none) (c:(zt E.tt st H (aI st.g h) (aI st.g b)).K Q):c5 E C o st Q:=by
 rintro a w ⟨I,rt,fp,f⟩ next a0 d2
 have i:=f.aI b;unfold zt at c;split at c
 ·exact c.elim
 rename_i id f4 d4;split at c
 case h_2=>exact c.elim
 rename_i gc f9 ap q W;split at c
 ·exact c.elim
 rename_i u d8;cases x:aT ap u with
 |false=>rw[x] at c;exact c.elim
 |true=>
 rw[x] at c;simp only[cond_true] at c;obtain⟨U,O,fT,el,z⟩:=Rp f d4 q d8;have J:=(E.ok H ap W).lay x;have G:∀(k:cI) (S:aB) (e:Nat->cI) (d:Nat->cO),(a.eval b).cells=k.toArray->k.length=u.size->(∀b∈k,b.oneCell'=true)->gQ w U O (O+u.size)->bi C S a.tmps (w.setCells U O k) I e d->Q S->o.wp E.P a w next a0:=by
  intro k S e d ai D a3 a4 d6 d5;unfold Oper.wp;rw[SY W x d3 el ai D a3 a4];show next (a.put o.dst undef) _
  rw[bs];exact d2 _ _ _ d5 rfl ⟨I,e,d,d6⟩
 split at c
 ·rename_i j am F;split at c
  case h_2=>exact c.elim
  rename_i ge f7 A;cases v:Nat.beq id j with
  |true=>rw[v] at c;exact c.elim
  |false=>
   rw[v] at c;obtain⟨⟨T,av⟩,⟨co,p⟩,c⟩:=c;have d1:id≠j:=λB=>(by rw[B,oJ] at v;cases v);rw[F] at i;generalize N:a.eval b=fs at i;cases i with|ref r M=>
   rw[A] at r;cases r;obtain⟨t,an,f5⟩:=f.tree j _ A;obtain⟨f3,f0,f2,f6,eq,s,_,ad,_⟩:=yq am (τ':=u) (y:=T) t (loc:=none) (λ_ _ c=>by cases c) an (λ_ _ c=>by cases c) (f.notM A) co;obtain⟨rfl,rfl,rfl⟩:=M.hn eq;have d0:f2.Nodup:=(hu.1 (ad.nodup_iff.1 an)).1;obtain⟨n,e,d,m⟩:=f.store q z p s d0 (S2:=[j]) (by simpa using d1) (λV L=>.inr ⟨j,ab,_,A,ad.mem_iff.2 (by simp[L])⟩);exact G _ _ e d (by rw[N];exact mq J s.len s.one) s.len s.one n m c
 ·rename_i j am fz f8 ex F;split at c
  case isFalse=>exact c.elim
  rename_i B;subst B;obtain⟨⟨ft,av⟩,⟨rfl,rfl,ce,p⟩,c⟩:=c;rw[F] at i;generalize N:a.eval b=fs at i;cases i with|app r cv M ci bl f1 l Y d7 ds=>
  rw[q] at r;cases r;obtain rfl:=bN.uniq ce ci;obtain⟨_,ai,D⟩:=z.hn M;subst ai;subst D;have dl:(af.osl fz).hS=true:=cv;obtain⟨n,e,d,m⟩:=f.store q z p l ds (S2:=ex) (λcs=>(Y _ cs).1 rfl) (λV L=>by
   rcases d7 V L with R|⟨Z,X,R⟩
   ·exact .inl ⟨_,ft,dl,bl,R⟩
   obtain⟨_,fn,d9⟩:=Y Z X;exact .inr ⟨Z,X,fn,d9,R⟩)
  exact G _ _ e d (by rw[N];have:=mq J l.len l.one;exact this) l.len l.one n m c
 split at c
 case h_2=>exact c.elim
 rename_i T em;obtain⟨av,p,c⟩:=c;have t:=Ak J i em;obtain⟨n,e,d,m⟩:=f.store q z p t ab (S2:=[]) ab ab;exact G _ _ e d ab t.len t.one n m c
end
end
section
def yp (a:List (List y)) (c b:Nat):((a.take b).drop c).flatten.Sublist a.flatten:=by have d:a.flatten=((a.take b).take c).flatten++((a.take b).drop c).flatten++(a.drop b).flatten:=(by rw[<-oE,kv,<-oE,kv]);rw[d];exact(List.sublist_append_right _ _).trans (List.sublist_append_left _ _)
section
variable {E:dz} {C:c8} {st:aB} {a:Act} {A:cG} {w:World} {I:Nat->Prop} {rt:Nat->cI} {fp:Nat->cO} {o:Oper} {Q:aB->Prop}
def wJ (c:List (Nat×af)) (st:aB) (a:Nat) (i:ag):rR:=
 match i with
 |.ref id []=>match ak st.h id with
  |some b=>.dc ⟨(a,.ref a [])::kill [id,a] [] st.g,(a,b)::del [id,a] st.h⟩
  |none=>.bad
 |.ref id f=>bif Nat.beq id a then .bad else .dc ⟨(a,.ref id f)::kill [a] [] st.g,del [a] st.h⟩
 |.view id [] e d=>match ak st.h id with
  |some ⟨.osl b,j⟩=>.dc ⟨(a,.ref a [])::kill [id,a] [] st.g,(a,⟨.osl b,(j.take d).drop e⟩)::del [id,a] st.h⟩
  |_=>.bad
 |.bD (.slice none 0 0)=>match ak c a with
  |some (.osl b)=>.dc ⟨(a,.ref a [])::kill [a] [] st.g,(a,⟨.osl b,[]⟩)::del [a] st.h⟩
  |_=>.bad
 |_=>.bad
def kz.one {w':World} {I':Nat->Prop} {S:cO} {d:Nat} {t:az} {cs:cI} {f:cO} (u:d∈S\/ak st.h d=none) (m:w.heap.size<=w'.heap.size) (n:w'.os=w.os) (o:w'.tape=w.tape) (p:w'.output=w.output) (q:∀a,a<w.heap.size->(∀id∈S,∀t,ak st.h id=some t->a∉fp id)->w'.heap[a]?=w.heap[a]?) (v:∀a,a<w.heap.size->gx w' a=gx w a) (r:∀a,I a->I' a) (s:∀a,I' a->I a\/(a<w'.heap.size/\(w.heap.size<=a\/∃id∈S,∃t,ak st.h id=some t/\a∈fp id))) (z:aG (aY I' C.B) w' t.1 cs t.2 f) (x:f.Nodup) (c:∀a∈f,¬I' a/\a<w'.heap.size/\(w.heap.size<=a\/∃j∈S,∃D,ak st.h j=some D/\a∈fp j)):kz C st w w' I I' rt fp S [] [(d,t)] (λ_=>cs) (λ_=>f):=by
 refine⟨m,n,o,p,q,λa c=>.of_eq (v a c),r,s,?_,?_,(λid g=>by cases g),(λid g=>by cases g)⟩
 ·intro A E b;rw[bG] at b;split at b
  ·rename_i k;subst k;obtain rfl:=dp b;exact⟨u,z,x,c⟩
  cases b
 intro A F E G e i y;rw[bG] at e i;split at e
 ·split at i
  ·rename_i ai l;exact absurd (ai.symm.trans l) y
  cases i
 cases e
def c5.Ky (ex:o.op=.assign b) (d9:o.dst=some c) (bs:C.ok c) (e:(wJ j st c (aI st.g b)).K Q):c5 E C o st Q:=by
 rintro a w ⟨I,rt,fp,z⟩ next a0 eq
 have p:=z.aI b;have ci:(execOp a.eval o).run E.P w=.ok (.value (a.eval b)) w:=(by simp[execOp,ex]);have O:∀(ap:aB) (rtn:Nat->cI) (fpn:Nat->cO),bi C ap (a.tmps.setIfInBounds c (a.eval b)) w I rtn fpn->Q ap->o.wp E.P a w next a0:=by
  intro ap rtn fpn G Y;unfold Oper.wp;rw[ci];show next (a.put o.dst (a.eval b)) w
  rw[d9];exact eq _ _ _ Y rfl ⟨I,rtn,fpn,G⟩
 have J:∀(S:cO) (i:az) (L:cI) (q:cO),c∈S->aG (aY I C.B) w i.1 L i.2 q->q.Nodup->(∀m∈q,∃cv∈S,∃fT,ak st.h cv=some fT/\m∈fp cv)->a.eval b=bp i.1 L->Q ⟨(c,.ref c [])::kill S [] st.g,(c,i)::del S st.h⟩->o.wp E.P a w next a0:=by
  intro S i L q el G M r fn Y;have v:=z.eT (kz.one (st:=st) (C:=C) (rt:=rt) (w':=w) (I':=I) (S:=S) (d:=c) (t:=i) (cs:=L) (f:=q) (.inl el) (a2 _) rfl rfl rfl (λ_ _ _=>rfl) (λ_ _=>rfl) (λ_ e=>e) (λ_ e=>.inl e) G M (λm d8=>by
   obtain⟨x,l,ds,v,bl⟩:=r m d8;obtain⟨aq,ft,am,dl⟩:=(z.tree x ds v).2.2 m bl;exact⟨aq,am,.inr ⟨x,l,ds,v,bl⟩⟩))
  refine O _ _ _ (v.put bs (av:=.ref c []) ?_) Y;rw[fn];refine .ref (t:=i) (loc:=none) (by rw[hQ,bG,al rfl];rfl) ?_;rw[yP];exact aJ.here
 unfold wJ at e;split at e
 ·rename_i id n;split at e
  case h_2=>exact e.elim
  rename_i i u;rw[n] at p;obtain⟨an,F,fz⟩:=z.tree id i u;refine J [id,c] i (rt id) (fp id) ab an F (λm r=>⟨id,ab,i,u,r⟩) ?_ e;generalize co:a.eval b=d0 at p;cases p with|ref H X=>
  rw[u] at H;cases H;obtain⟨rfl,rfl,rfl⟩:=aJ.en.1 X;rfl
 ·rename_i id ad _ n;cases r:Nat.beq id c with
  |true=>rw[r] at e;exact e.elim
  |false=>
   rw[r] at e;have em:id≠c:=λd5=>(by rw[d5,oJ] at r;cases r);have v:=z.eT (S:=[c]) (keep:=[]) (new:=[]) (rtn:=rt) (fpn:=fp) (w':=w) (I':=I) ⟨a2 _,rfl,rfl,rfl,λ_ _ _=>rfl,λ_ _=>.refl _ _,λ_ e=>e,λ_ e=>.inl e,(λ_ _ e=>by cases e),(λ_ _ _ _ e=>by cases e),(λ_ e=>by cases e),(λ_ e=>by cases e)⟩;refine O _ _ _ (v.put bs (av:=.ref id ad) ?_) e;have:=v.aI (a:=a) b;have d6:aI (kill [c] [] st.g) b=.ref id ad:=by
    cases b with
    |tmp i=>
     show gt (kill [c] [] st.g) i=_;rw[n0,show gt st.g i=.ref id ad from n];have:bV id [c]=false:=by
      cases W:bV id [c]
      ·rfl
      exact absurd (by simpa using eQ.1 W) em
     simp[dJ,di,ag.dB,ag.ids,this]
    |const f0=>exact absurd n (by cases f0<;>simp[aI])
    |global f7=>cases n
    |func q=>cases n
   rw[<-d6];exact this
 ·rename_i id k l n;split at e
  case h_2=>exact e.elim
  rename_i i d1 u;rw[n] at p;obtain⟨an,F,fz⟩:=z.tree id _ u;generalize co:a.eval b=d0 at p J O ci;cases p with|jm=>(exact J [id,c] ⟨.osl i,[]⟩ [.slice none 0 0] [] ab ⟨none,0,rfl,.inl ⟨rfl,rfl,rfl,rfl⟩⟩ ab ab rfl e)|view H X gc ge gf=>
  rename_i m D gl s;rw[u] at H;cases H;obtain⟨ai,_,d7⟩:=aJ.en.1 X;cases ai;obtain⟨f2,f5,T,G⟩:=an;rw[d7] at T;simp only[fd,Value.slice.injEq,and_true] at T;obtain⟨rfl,rfl,rfl⟩:=T;rcases G with⟨R,_⟩|⟨f3,go,y,R,ce,aq,ft,am,dl⟩
  ·cases R
  cases R;have V:((d1.take l).drop k).length=l-k:=(by simp;omega);refine J [id,c] ⟨.osl i,(d1.take l).drop k⟩ [.slice (some ⟨m,if s=k then D else D+k*i.size,none⟩) (l-k) (s-k)] (m::((y.take l).drop k).flatten) ab ?_ ?_ ?_ rfl e
  ·refine⟨some ⟨m,if s=k then D else D+k*i.size,none⟩,s-k,by rw[V],.inr ⟨m,_,(y.take l).drop k,rfl,rfl,by simp[aq],by simp only[V];omega,?_,?_⟩⟩
   ·intro fs a3 a4;by_cases A:s=k
    ·subst A;simp at a3 a4;omega
    rw[ah A] at a3 a4;have:k*i.size+(s-k)*i.size=s*i.size:=(by rw[<-e2];congr 1;omega);exact am fs U U
   intro x f1 q Z M;have f9:x<l-k:=(by rw[<-V];exact(ec.1 Z).1);rw[jX,ks U] at Z M;obtain⟨d4,d2,f6,d3⟩:=dl (k+x) f1 q Z M;refine⟨d4,d2,?_,d3⟩;rw[ah U];rwa[show D+k*i.size+x*i.size=D+(k+x)*i.size by rw[e2];omega]
  ·rw[ce] at F;have N:((y.take l).drop k).flatten.Sublist y.flatten:=yp _ _ _;rw[h7] at F|-;exact⟨λW=>F.1 (N.subset W),F.2.sublist N⟩
  intro f4 A;refine⟨id,ab,_,u,?_⟩;rw[ce];rcases dk.1 A with rfl|A
  ·simp
  have N:((y.take l).drop k).flatten.Sublist y.flatten:=yp _ _ _;exact eJ _ (N.subset A)
 ·rename_i n;split at e
  case h_2=>exact e.elim
  rename_i i f8;rw[n] at p;refine J [c] ⟨.osl i,[]⟩ [.slice none 0 0] [] ab ⟨none,0,rfl,.inl ⟨rfl,rfl,rfl,rfl⟩⟩ ab ab ?_ e;generalize co:a.eval b=d0 at p;cases p;rfl
 exact e.elim
end
end
section
inductive jc (σ:af) where
 |dc (wa:List σ.den)
 |part (α:Type) (φ:α->Prop) (f:α->List σ.den)
 |bad
def oz (g:List (Nat×az)) (b:af) (k:ag):jc b:=
 match k with
 |.val (.aV _ j) a=>if e:j=b then .dc (e▸a) else .bad
 |.bD (.slice none 0 0)=>.dc []
 |.ref id c=>match ak g id with
  |some ⟨f,d⟩=>bif b.pure then .part (List b.den) (λa=>bN f d c (.osl b) a) (λa=>a) else .bad
  |none=>.bad
 |.view id c i h=>match ak g id with
  |some ⟨f,d⟩=>bif b.pure then .part (List b.den) (λa=>bN f d c (.osl b) a) (λa=>(a.take h).drop i) else .bad
  |none=>.bad
 |_=>.bad
def jc.to {f:af} (g:jc f) (c:Nat->Prop) (b:List f.den->aB):rR:=
 match g with
 |.dc e=>.part Unit (λ_=>c e.length) (λ_=>b e)
 |.part h i d=>.part h (λa=>i a/\c (d a).length) (λa=>b (d a))
 |.bad=>.bad
def wH (
 tt:List (TypeId×af)) (t:List (Nat×af)) (st:aB) (a:Nat) (s:TypeId) (j k:ag):rR:=
 match eA tt s with
 |none=>.bad
 |some o=>match j with
  |.ref id []=>match ak st.h id with
   |some ⟨.osl b,d⟩=>bif aT o b&&Nat.ble b.size 1300 then
    match b.pure,k with
    |false,.ref n []=>match ak st.h n with
     |some ⟨.osl v,c⟩=>if e:v=b then bif Nat.beq id n then .bad else .part Unit (λ_=>d.length+c.length<=fh) (λ_=>⟨(a,.ref a [])::kill [id,n,a] [] st.g,(a,⟨.osl b,d++(e▸c)⟩)::del [id,n,a] st.h⟩) else .bad
     |_=>.bad
    |_,k=>(oz st.h b k).to (λl=>d.length+l<=fh) (λc=>⟨(a,.ref a [])::kill [id,a] [] st.g,(a,⟨.osl b,d++c⟩)::del [id,a] st.h⟩)
    else .bad
   |_=>.bad
  |.ref id f=>match ak st.h id,ak st.h a with
   |some ⟨m,j⟩,none=>match dn m f with
    |some (.osl b)=>bif aT o b&&Nat.ble b.size 1300&&b.hS then
     match oz st.h b k with
     |.dc c=>.part (List b.den) (λd=>bN m j f (.osl b) d/\d.length+c.length<=fh) (λ_=>⟨(a,.app id f b c [a])::kill [id] [(id,f),(id,[])] st.g,(a,⟨.bP,()⟩)::(id,⟨m,j⟩)::del [id] st.h⟩)
     |.part u w p=>.part (List b.den×u) (λi=>bN m j f (.osl b) i.1/\w i.2/\i.1.length+(p i.2).length<=fh) (λi=>⟨(a,.app id f b (p i.2) [a])::kill [id] [(id,f),(id,[])] st.g,(a,⟨.bP,()⟩)::(id,⟨m,j⟩)::del [id] st.h⟩)
     |.bad=>.bad
     else .bad
    |_=>.bad
   |_,_=>.bad
  |.view id [] r q=>match ak st.h id with
   |some ⟨.osl b,d⟩=>bif aT o b&&Nat.ble b.size 1300 then
    (oz st.h b k).to (λl=>((d.take q).drop r).length+l<=fh) (λc=>⟨(a,.ref a [])::kill [id,a] [] st.g,(a,⟨.osl b,(d.take q).drop r++c⟩)::del [id,a] st.h⟩)
    else .bad
   |_=>.bad
  |.bD (.slice none 0 0)=>match ak t a with
   |some (.osl b)=>bif aT o b&&Nat.ble b.size 1300 then
    (oz st.h b k).to (λl=>l<=fh) (λc=>⟨(a,.ref a [])::kill [a] [] st.g,(a,⟨.osl b,c⟩)::del [a] st.h⟩)
    else .bad
   |_=>.bad
  |_=>.bad
section
variable {E:dz} {C:c8} {st:aB} {a:Act} {A:cG} {w:World} {I:Nat->Prop} {rt:Nat->cI} {fp:Nat->cO} {o:Oper} {Q:aB->Prop}
def tN (I:Nat->Prop) (e:Nat->Prop) (w:World) (d:af) (g:Value) (c:List d.den):Prop:=
 ∃b f a,g=.slice b c.length f/\hC (aY I e) w d b c a/\a.flatten=[]
def AY {b:cD} (c:∀a∈b,a=[]):b.flatten=[]:=by
 induction b with
 |nil=>rfl
 |cons f g e=>rw[iE,c f ab,e (λa d=>c a (eJ _ d))];rfl
def hC.pure {f:bO->Nat->Prop} {e:af} {g:Option Addr} {d:List e.den} {c:cD} (j:e.pure=true) (a:hC f w e g d c):c.flatten=[]:=by
 refine AY (λn h=>?_);obtain⟨i,a⟩:=a;obtain⟨b,p,rfl⟩:=g9.1 h;rcases a with rfl|⟨l,o,_,a⟩
 ·simp only[oF] at i;omega
 have q:b<d.length:=U;obtain⟨m,_,_,k⟩:=a b d[b] c[b] ab ab;exact k.pure j
def jc.holds {c:af} (e:jc c) (b:List c.den):Prop:=
 match e with
 |.dc f=>b=f
 |.part g h d=>∃a:g,h a/\b=d a
 |.bad=>False
def jc.zw {f:jc d} {g:List d.den->aB} (b:(f.to l g).K Q):∃a,f.holds a/\l a.length/\Q (g a):=by
 unfold jc.to at b;cases f with
 |dc a=>obtain⟨_,c,e⟩:=b;exact⟨a,rfl,c,e⟩
 |part k m j=>obtain⟨h,⟨c,e⟩,i⟩:=b;exact⟨j h,⟨h,c,rfl⟩,e,i⟩
 |bad=>exact b.elim
def ru (y:bi C st a.tmps w I rt fp) {u:List d.den} (c:(oz st.h d (aI st.g b)).holds u):tN I C.B w d (a.eval b) u:=by
 have e:=y.aI b;unfold oz at c;generalize Y:a.eval b=a3 at e;split at c
 ·rename_i ap a0 q j;split at c
  case isFalse=>exact c.elim
  rename_i n;subst n;obtain rfl:u=q:=c;rw[j] at e;cases e with|val H=>
  have P:=H;obtain⟨_,v,m,rfl,_⟩:=P;obtain⟨_,f⟩:=hC.aV H;exact⟨v,m,_,rfl,f,ab⟩
 ·rename_i j;obtain rfl:u=[]:=c;rw[j] at e;cases e;exact⟨none,0,[],rfl,⟨rfl,.inl rfl⟩,rfl⟩
 ·rename_i id O j;split at c
  case h_2=>exact c.elim
  rename_i R Q o;cases l:d.pure with
  |false=>rw[l] at c;exact c.elim
  |true=>
   rw[l] at c;obtain⟨q,z,rfl⟩:=c;rw[j] at e;cases e with|ref p D=>
   rw[o] at p;cases p;obtain⟨rfl,x,s,_⟩:=y.ip o z D;have N:=s;obtain⟨v,m,rfl,_⟩:=N;obtain⟨_,_,r,f,_⟩:=hC.osl s;exact⟨v,m,r,rfl,f,f.pure l⟩
 ·rename_i id O i k j;split at c
  case h_2=>exact c.elim
  rename_i R Q o;cases l:d.pure with
  |false=>rw[l] at c;exact c.elim
  |true=>
   rw[l] at c;obtain⟨q,z,rfl⟩:=c;rw[j] at e;cases e with|jm=>(exact⟨none,0,[],rfl,⟨rfl,.inl rfl⟩,rfl⟩)|view p D Z ad am=>
   rename_i J G an m;rw[o] at p;cases p;obtain⟨n,x,s,_⟩:=y.ip o z D;cases n;obtain⟨ai,_,r,f,_⟩:=hC.osl s;have A:((q.take k).drop i).length=k-i:=(by simp;omega);show tN I C.B w d _ ((q.take k).drop i);refine⟨_,m-i,(r.take k).drop i,by rw[A],⟨by simp[f.1],?_⟩,?_⟩
   ·obtain⟨W,f⟩:=f;by_cases X:k=i
    ·left;apply k7;omega
    right;rcases f with rfl|⟨S,av,n,f⟩
    ·simp at A;omega
    cases n;refine⟨J,_,rfl,λt b x e E=>?_⟩;have V:t<k-i:=(by rw[<-A];exact(ec.1 e).1);rw[jX,ks U] at e E;obtain⟨M,K,T,L⟩:=f (i+t) b x e E;refine⟨M,K,?_,L⟩;rw[ah U];rwa[show G+i*d.size+t*d.size=G+(i+t)*d.size by rw[e2];omega]
   have:=f.pure l;have F:=yp r i k;rw[this] at F;exact List.sublist_nil.1 F
 exact c.elim
def TH {b p:Nat} {q:List d.den} (A:aG f w (.osl d) [.slice (some ⟨b,P,none⟩) p N] q n) (l:n.Nodup) (M:c<=g) (O:g<=p) (Q:p<=N):∃i,aG f w (.osl d) [.slice (some ⟨b,if N=c then P else P+c*d.size,none⟩) (g-c) (N-c)] ((q.take g).drop c) i/\i.Nodup/\∀r∈i,r∈n:=by
 obtain⟨H,J,v,C⟩:=A;simp only[fd,Value.slice.injEq,and_true] at v;obtain⟨rfl,rfl,rfl⟩:=v;rcases C with⟨j,_⟩|⟨I,R,e,j,rfl,aq,S,E,F⟩
 ·cases j
 cases j;have k:((q.take g).drop c).length=g-c:=(by simp;omega);have m:((e.take g).drop c).flatten.Sublist e.flatten:=yp _ _ _;refine⟨b::((e.take g).drop c).flatten,⟨some ⟨b,if N=c then P else P+c*d.size,none⟩,N-c,by rw[k],.inr ⟨b,_,(e.take g).drop c,rfl,rfl,by simp[aq],by rw[k];omega,?_,?_⟩⟩,?_,?_⟩
 ·intro D s t;by_cases a:N=c
  ·subst a;simp at s t;omega
  rw[ah a] at s t;have:c*d.size+(N-c)*d.size=N*d.size:=(by rw[<-e2];congr 1;omega);exact E D U U
 ·intro h G n o u;have L:h<g-c:=(by rw[<-k];exact(ec.1 o).1);rw[jX,ks U] at o u;obtain⟨z,x,K,y⟩:=F (c+h) G n o u;refine⟨z,x,?_,y⟩;rw[ah U];rwa[show P+c*d.size+h*d.size=P+(c+h)*d.size by rw[e2];omega]
 ·rw[h7] at l|-;exact⟨λB=>l.1 (m.subset B),l.2.sublist m⟩
 intro r a;rcases dk.1 a with rfl|a
 ·simp
 exact eJ _ (m.subset a)
def DS (d:o.op=.call {callee:=.builtin .append,args:=#[b,h],argTypes:=#[H,H]}) {c:Value} (f:(Builtin.append_ #[H,H] o.type #[a.eval b,a.eval h]).run E.P w=.ok c e):(execOp a.eval o).run E.P w=.ok (.value c) e:=by simp only[execOp,d,resolve,invoke,builtin,Sem.run_bind,Sem.run_pure,Result.andThen_ok,tz,eH,List.map_nil,f]
def c5.tQ {W:Operand} (d2:o.op=.call {callee:=.builtin .append,args:=#[b,W],argTypes:=#[H,H]}) (a3:o.dst=some N) (bs:C.ok N) (q:bi C st a.tmps w I rt fp) {next:Act->World->Prop} (d1:∀O z p,Q O->z.defers=a.defers->ez C O z.tmps p->next z p) {V:af} (ap:eA E.tt H=some V) (dl:aT V R=true) (d6:R.size<=1300) {S:cO} (a4:N∈S) {M G:Nat} {xs u:List R.den} {f1:cO} {x:cD} {F:Nat} (d8:a.eval b=.slice r M G) (d5:aG (aY I C.B) w (.osl R) [.slice r M G] xs f1) (co:f1.Nodup) (y:∀e∈f1,∃i∈S,∃j,ak st.h i=some j/\e∈fp i) (d9:a.eval W=.slice T u.length F) (ce:hC (aY I C.B) w R T u x) (cv:x.flatten.Nodup) (K:∀e∈x.flatten,∃i∈S,∃j,ak st.h i=some j/\e∈fp i) (bl:∀e∈f1,e∉x.flatten) (ds:xs.length+u.length<=fh) (d3:Q ⟨(N,.ref N [])::kill S [] st.g,(N,⟨.osl R,xs++u⟩)::del S st.h⟩):o.wp E.P a w next s:=by
 obtain⟨i,f3,f4,Z,ad⟩:=eA.ok ap;have J:=ad.lay dl;obtain⟨f5,_,el,_⟩:=J.info;have D:∀i j,ak st.h i=some j->∀e∈fp i,e<w.heap.size/\∀L,¬aY I C.B L e:=λi j l e k=>⟨((q.tree i j l).2.2 e k).2.2.1,q.notM l e k⟩;obtain⟨v,p,f2,em,ex,_,aP,fn,fs,ft,fz,fT,eq,f9,_,f0⟩:=DT (P:=E.P) (ty:=o.type) Z J el.info d6 d5 (c:=F) ce co (λe k=>by obtain⟨i,_,j,l,m⟩:=y e k;exact(D i j l e m).2) cv bl (λL e d0=>q.ib e (kN d0)) (λe k=>by obtain⟨i,_,j,l,m⟩:=y e k;exact(D i j l e m).1) (λe k=>by obtain⟨i,_,j,l,m⟩:=K e k;exact(D i j l e m).1) ds;have d4:(execOp a.eval o).run E.P w=.ok (.value v) p:=DS (E:=E) d2 (by rw[d8,d9];exact em);have a0:∀e∈f2,(∃i∈S,∃j,ak st.h i=some j/\e∈fp i)\/(w.heap.size<=e/\e<p.heap.size):=λe k=>by
  rcases fn e k with n|n|n
  ·exact .inl (y e n)
  ·exact .inl (K e n)
  exact .inr n
 have d7:=q.eT (kz.one (st:=st) (C:=C) (rt:=rt) (w':=p) (I':=I) (S:=S) (d:=N) (t:=⟨.osl R,xs++u⟩) (cs:=[v]) (f:=f2) (.inl a4) fs ft fz fT (λe k an=>eq e k (λci=>by obtain⟨i,A,j,l,m⟩:=y e ci;exact an i A j l m)) f0 (λ_ n=>n) (λ_ n=>.inl n) ex aP (λe k=>by
   rcases a0 e k with⟨i,A,j,l,m⟩|⟨X,Y⟩
   ·obtain⟨aq,f6,f7,f8⟩:=(q.tree i j l).2.2 e m;exact⟨aq,U,.inr ⟨i,A,j,l,m⟩⟩
   exact⟨λam=>by have:=q.ib e (.inl am);omega,Y,.inl X⟩))
 unfold Oper.wp;rw[d4];show next (a.put o.dst v) p
 rw[a3];refine d1 _ _ _ d3 rfl ⟨I,_,_,d7.put bs (av:=.ref N []) ?_⟩;have:v=bp (.osl R) [v]:=rfl;rw[this];refine .ref (t:=⟨.osl R,xs++u⟩) (loc:=none) (by rw[hQ,bG,al rfl];rfl) ?_;rw[yP];exact aJ.here
end
end
section
section
variable {E:dz} {C:c8} {st:aB} {a:Act} {A:cG} {w:World} {I:Nat->Prop} {rt:Nat->cI} {fp:Nat->cO} {o:Oper} {Q:aB->Prop}
def DV {gl:Operand} (lt:o.op=.call {callee:=.builtin .append,args:=#[b,gl],argTypes:=#[H,H]}) (am:o.dst=some N) (jn:C.ok N) (v:bi C st a.tmps w I rt fp) {next:Act->World->Prop} (lp:∀ge ce w',Q ge->ce.defers=a.defers->ez C ge ce.tmps w'->next ce w') {bs:af} (i1:eA E.tt H=some bs) (la:aT bs R=true) (mo:R.size<=1300) (d3:R.hS=true) {id:Nat} (jp:aI st.g b=.ref id m) {n:d.den} (r:ak st.h id=some ⟨d,n⟩) (an:ak st.h N=none) {z a0:List R.den} (d0:bN d n m (.osl R) z) {S2:cO} (nd:∃el A F,a.eval gl=.slice el a0.length A/\hC (aY I C.B) w R el a0 F/\F.flatten.Nodup/\∀e∈F.flatten,∃j∈S2,∃D,ak st.h j=some D/\e∈fp j) (cs:∀j∈S2,j≠id/\∃bs,ak st.h j=some bs) (lb:z.length+a0.length<=fh) (d4:Q ⟨(N,.app id m R a0 (N::S2))::kill [id] [(id,m),(id,[])] st.g,(N,⟨.bP,()⟩)::(id,⟨d,n⟩)::del [id] st.h⟩):o.wp E.P a w next s:=by
 obtain⟨j,t4,Z,ii,io⟩:=eA.ok i1;have ex:=io.lay la;obtain⟨t9,_,or,_⟩:=ex.info;have d6:=v.aI b;rw[jp] at d6;generalize mt:a.eval b=up at d6;cases d6 with|ref u d2=>
 rename_i u8 em go;rw[r] at u;cases u;simp only at d2;obtain⟨os,d7,d8⟩:=v.tree id _ r;obtain⟨ul,t6,V,d9,hr,eq,hs,Y,hv,hw,ic⟩:=u3 m (loc:=none) os (λ_ _ i=>by cases i) d7 (λ_ _ i=>by cases i) (v.notM r) d0;obtain⟨gs,ai,gt⟩:=d2.hn hr;subst gs;subst ai;subst gt;have f1:=Y.nodup_iff.1 d7;rw[hu] at f1;obtain⟨le,f0,lk⟩:=f1;obtain⟨ci,co,rfl,_⟩:=(show aG (aY I C.B) w (.osl R) go z V from eq);obtain⟨el,A,F,ne,kd,kg,ds⟩:=nd;have K:∀e∈V,e∈fp id:=λe f=>Y.mem_iff.2 (by simp[f]);have J:∀e∈fp id,e<w.heap.size/\∀M,¬aY I C.B M e:=λe f=>⟨(d8 e f).2.2.1,v.notM r e f⟩;have f4:∀e∈F.flatten,e<w.heap.size:=λe f=>(by obtain⟨j,l,D,L,ad⟩:=ds e f;exact((v.tree j D L).2.2 e ad).2.2.1);obtain⟨gf,w',f2,pm,ps,f9,gc,rd,rg,rs,tf,to,f8,pr,_,t0⟩:=DT (P:=E.P) (ty:=o.type) ii ex or.info mo eq (c:=A) kd le (λe f=>(J e (K e f)).2) kg (λe f i3=>by
  obtain⟨j,l,D,L,ad⟩:=ds e i3;exact v.dis id j _ D r L (cs j l).1.symm e (K e f) ad)
  (λM e d1=>v.ib e (kN d1)) (λe f=>(J e (K e f)).1) f4 lb
 have mc:(execOp a.eval o).run E.P w=.ok (.value gf) w':=DS (E:=E) lt (by rw[mt,ne];exact pm);have f3:∀e∈d9,e<w.heap.size/\e∉V:=λe f=>⟨(J e (Y.mem_iff.2 (by simp[f]))).1,λi=>lk e i e f rfl⟩;have d5:∀e,(∃M,aY I C.B M e)\/e∈d9->bB w w' e:=λe f=>by
  rcases f with⟨M,d1⟩|f
  ·exact pr M e d1
  exact .of_heap (f8 e (f3 e f).1 (f3 e f).2)
 have i2:∀e O,em=some (e,O)->dt w' e O [.slice ci z.length co]:=λe O k=>by
  have f:e∈d9:=by
   rcases hv e O k with⟨bl,i,_⟩|i
   ·cases i
   exact i
  exact(hs e O k).1.dV (d5 e (.inr f))
 obtain⟨t7,W,nn,_,no,_,n5,f5⟩:=hw w' (aY I C.B) [.slice ci z.length co] z V n (λ_ _ i=>i) (λe f=>by
  have a3:bB w w' e:=d5 e (by
   rcases f with i|i|⟨O,i⟩
   ·exact .inl i
   ·exact .inr i
   cases i)
  exact⟨λy _=>(a3.1 y).1,λy=>(a3.1 y).2,λy=>by rw[(a3.1 y).1],a3.2⟩) f9 (λ_ _=>rfl) i2 (df.same d0)
 obtain rfl:=no rfl (.inr rfl);have G:W.Perm (fp id):=n5.trans Y.symm;have q:N≠id:=λk=>(by rw[k,r] at an;cases an);have ft:∀e∈f2,e∈V\/e∈F.flatten\/(w.heap.size<=e/\e<w'.heap.size):=λe f=>rd e f
 let X:=f2.filter λe=>decide (w.heap.size<=e)
 have dl:∀e∈X,w.heap.size<=e/\e<w'.heap.size:=λe f=>by
  have fn:=gp.1 f;have Z:w.heap.size<=e:=(by simpa using fn.2);rcases ft e fn.1 with i|i|i
  ·have:=(J e (K e i)).1;omega
  ·have:=f4 e i;omega
  exact i
 have mp:=v.eT (S:=[id]) (keep:=[(id,m),(id,[])]) (new:=[(N,⟨.bP,()⟩),(id,⟨d,n⟩)]) (rtn:=λj=>if j=N then[] else rt id) (fpn:=λj=>if j=N then X else W) (w':=w') (I':=I) ⟨rg,rs,tf,to,λe f i0=>f8 e f (λi=>i0 id ab _ r (K e i)),λe f=>.of_eq (t0 e f),λ_ i=>i,λ_ i=>.inl i,(by
   intro j U l;rw[bG] at l;split at l
   ·rename_i k;subst k;cases l;refine⟨.inr an,(by simp only[if_true];exact rfl),(by simp only[if_true];exact gc.filter _),λe f=>?_⟩;simp only[if_true] at f;obtain⟨aq,T⟩:=dl e f;exact⟨λis=>by have:=v.ib e (.inl is);omega,T,.inl aq⟩
   ·rw[bG] at l;split at l
    ·rename_i _ k;subst k;cases l;have p:¬(id=N):=λk=>q k.symm;refine⟨.inl ab,(by simp only[ah p];exact nn),(by simp only[ah p];rw[G.nodup_iff];exact d7),λe f=>?_⟩;simp only[ah p] at f;rw[G.mem_iff] at f;exact⟨(d8 e f).1,by have:=(d8 e f).2.2.1;omega,.inr ⟨id,ab,_,r,f⟩⟩
    cases l),(by
   intro j y t1 t2 l k0 fT e f;have fs:∀a4 U,ak [(N,(⟨.bP,()⟩:az)),(id,⟨d,n⟩)] a4=some U->a4=N\/a4=id:=λa4 U x=>by
    rw[bG] at x;split at x
    ·rename_i k;exact .inl k.symm
    rw[bG] at x;split at x
    ·rename_i _ k;exact .inr k.symm
    cases x
   have p:¬(id=N):=λk=>q k.symm;rcases fs j t1 l with rfl|rfl<;>rcases fs y t2 k0 with rfl|rfl
   ·exact absurd rfl fT
   ·simp only[if_true] at f;simp only[ah p];rw[G.mem_iff];intro i;have:=(J e i).1;have:=(dl e f).1;omega
   ·simp only[ah p] at f;simp only[if_true];rw[G.mem_iff] at f;intro i;have:=(J e f).1;have:=(dl e i).1;omega
   ·exact absurd rfl fT),(by
   intro j l U u;have ap:j=(id,m)\/j=(id,[]):=(by simpa using l);have Z:j.1=id:=by rcases ap with rfl|rfl<;>rfl
   have u:ak st.h id=some U:=(by rw[<-Z];exact u);rw[r] at u;obtain rfl:=dp u;have p:¬(id=N):=λk=>q k.symm;refine⟨⟨d,n⟩,by rw[Z,bG,ah q,bG,al rfl],rfl,by rw[Z];simp only[ah p],(by rcases ap with rfl|rfl;exact⟨_,d2.ty⟩;exact⟨d,by cases d<;>rfl⟩),λbl _ _ _ x d4=>?_⟩;rcases ap with rfl|rfl
   ·exact f5.2 bl _ _ _ x d4
   ·rw[yC] at x;cases x),(by
   intro j l U u bl vm ut f6 t5 t8 am d3 f0 fz l2;have ap:j=(id,m)\/j=(id,[]):=(by simpa using l);rcases ap with rfl|rfl
   ·rw[r] at u;obtain rfl:=dp u;have p:¬(id=N):=λk=>q k.symm;refine⟨⟨d,n⟩,by rw[bG,ah q,bG,al rfl],fz,λA i8=>?_⟩;obtain⟨aq,T⟩:=ic bl _ _ _ _ _ am (by exact d3) fz f0 l2 A i8;exact⟨by simp only[ah p];exact G.mem_iff.2 (Y.mem_iff.2 (ku _ aq)),d5 A (.inr aq)⟩
   rw[qF] at am;cases am)⟩
 unfold Oper.wp;rw[mc];show next (a.put o.dst gf) w'
 rw[am];refine lp _ _ _ d4 rfl ⟨I,_,_,mp.put jn (av:=.app id m R a0 (N::S2)) ?_⟩;have p:¬(id=N):=λk=>q k.symm;have of:ak ([(N,(⟨.bP,()⟩:az)),(id,⟨d,n⟩)]++del [id] st.h) id=some ⟨d,n⟩:=(by rw[hQ,bG,ah q,bG,al rfl];rfl);have f6:ak ([(N,(⟨.bP,()⟩:az)),(id,⟨d,n⟩)]++del [id] st.h) N=some ⟨.bP,()⟩:=(by rw[hQ,bG,al rfl];rfl);have f7:ak [(N,(⟨.bP,()⟩:az)),(id,⟨d,n⟩)] id=some ⟨d,n⟩:=(by rw[bG,ah q,bG,al rfl]);have ol:ak [(N,(⟨.bP,()⟩:az)),(id,⟨d,n⟩)] N=some ⟨.bP,()⟩:=(by rw[bG,al rfl]);have hi:de [(N,(⟨.bP,()⟩:az)),(id,⟨d,n⟩)] (λj=>if j=N then X else W) fp id=W:=(by simp only[de,f7,ah p]);have hc:de [(N,(⟨.bP,()⟩:az)),(id,⟨d,n⟩)] (λj=>if j=N then X else W) fp N=X:=(by simp only[de,ol,if_true]);have pl:de [(N,(⟨.bP,()⟩:az)),(id,⟨d,n⟩)] (λj=>if j=N then[] else rt id) rt id=rt id:=(by simp only[de,f7,ah p]);have lo:aJ w' d none (rt id) m (.osl R) em [.slice ci z.length co]:=f5.1;refine .app (t:=⟨d,n⟩) of d3 (by rw[pl];exact lo) d0 f9 (λe f=>by rw[hi,G.mem_iff];exact K e f) ps ?_ ?_ gc
 ·intro j l;rcases dk.1 l with rfl|l
  ·exact⟨q,_,f6⟩
  obtain⟨aq,t3,T⟩:=cs j l;have cv:¬(N=j):=λk=>(by rw[<-k,an] at T;cases T);refine⟨aq,t3,?_⟩;rw[hQ,bG,ah cv,bG,ah (λk=>aq k.symm),kc,ah (by simpa using aq),T];rfl
 intro e f;rcases ft e f with i|i|i
 ·exact .inl i
 ·obtain⟨j,l,D,L,ad⟩:=ds e i;obtain⟨aq,_⟩:=cs j l;have cv:¬(N=j):=λk=>(by rw[<-k,an] at L;cases L);have on:ak [(N,(⟨.bP,()⟩:az)),(id,⟨d,n⟩)] j=none:=(by rw[bG,ah cv,bG,ah (λk=>aq k.symm)];rfl);exact .inr ⟨j,eJ _ l,by simp only[de,on];exact ad⟩
 exact .inr ⟨N,ab,by rw[hc];exact gp.2 ⟨f,by simpa using i.1⟩⟩
def DU {q:Operand} (N:o.op=.call {callee:=.builtin .append,args:=#[b,q],argTypes:=#[H,H]}) (z:o.dst=some c) (D:C.ok c) (x:bi C st a.tmps w I rt fp) {next:Act->World->Prop} (M:∀k e n,Q k->e.defers=a.defers->ez C k e.tmps n->next e n) {l:af} (y:eA E.tt H=some l) (J:aT l d=true) (S:d.size<=1300) (L:d.hS=true) {id:Nat} (F:aI st.g b=.ref id m) {i:R.den} (T:ak st.h id=some ⟨R,i⟩) (A:ak st.h c=none) {p f:List d.den} (G:bN R i m (.osl d) p) (U:tN I C.B w d (a.eval q) f) (K:p.length+f.length<=fh) (O:Q ⟨(c,.app id m d f [c])::kill [id] [(id,m),(id,[])] st.g,(c,⟨.bP,()⟩)::(id,⟨R,i⟩)::del [id] st.h⟩):o.wp E.P a w next s:=by obtain⟨V,r,t,u,v,j⟩:=U;exact DV (S2:=[]) N z D x M y J S L F T A G ⟨V,r,t,u,v,by rw[j];exact .nil,by rw[j];simp⟩ ab K O
end
end
section
section
variable {E:dz} {C:c8} {st:aB} {o:Oper} {Q:aB->Prop}
def c5.app {d3:List (Nat×af)} {W:TypeId} {A N:Operand} {t:Nat} (z:o.op=.call {callee:=.builtin .append,args:=#[A,N],argTypes:=#[W,W]}) (w:o.dst=some t) (x:C.ok t) (a:(wH E.tt d3 st t W (aI st.g A) (aI st.g N)).K Q):c5 E C o st Q:=by
 rintro F J ⟨D,U,G,c⟩ next f2 y
 have r:=c.aI A;unfold wH at a;split at a
 ·exact a.elim
 rename_i V v;split at a
 ·rename_i id u;split at a
  case h_2=>exact a.elim
  rename_i e k i;cases b:(aT V e&&Nat.ble e.size 1300) with
  |false=>rw[b] at a;exact a.elim
  |true=>
  rw[b] at a;simp only[a5] at b;obtain⟨l,d⟩:=b;have d:=eo d;simp only[cond_true] at a;rw[u] at r;generalize H:F.eval A=d1 at r;cases r with|ref M am=>
  rw[i] at M;cases M;obtain⟨ai,_,L⟩:=aJ.en.1 am;subst ai;subst L;obtain⟨I,T,ft⟩:=c.tree id _ i;obtain⟨av,Y,a4,_⟩:=(show aG (aY D C.B) J (.osl e) (U id) k (G id) from I);have cv:F.eval A=.slice av k.length Y:=(by rw[H];show(U id).headD undef=_;rw[a4];rfl);have ds:aG (aY D C.B) J (.osl e) [.slice av k.length Y] k (G id):=(by rw[<-a4];exact I);split at a
  ·rename_i m f7 d4;split at a
   case h_2=>exact a.elim
   rename_i d2 s R;split at a
   case isFalse=>exact a.elim
   rename_i Z;subst Z;cases P:Nat.beq id m with
   |true=>rw[P] at a;exact a.elim
   |false=>
   rw[P] at a;have d8:id≠m:=λZ=>(by rw[Z,oJ] at P;cases P);obtain⟨_,h,a⟩:=a;have an:=c.aI N;rw[d4] at an;generalize q:F.eval N=go at an;cases an with|ref cs d7=>
   rw[R] at cs;cases cs;obtain⟨ai,_,L⟩:=aJ.en.1 d7;subst ai;subst L;obtain⟨d0,fT,gl⟩:=c.tree m _ R;obtain⟨a0,a3,bl,_⟩:=(show aG (aY D C.B) J (.osl d2) (U m) s (G m) from d0);have d9:F.eval N=.slice a0 s.length a3:=(by rw[q];show(U m).headD undef=_;rw[bl];rfl);have fz:aG (aY D C.B) J (.osl d2) [.slice a0 s.length a3] s (G m):=(by rw[<-bl];exact d0);obtain⟨_,_,O,p,ce,d6,_⟩:=hC.osl fz;exact c5.tQ z w x c y v l d (S:=[id,m,t]) ab cv ds T (λn b=>⟨id,ab,_,i,b⟩) d9 p (d6 fT) (λn b=>⟨m,ab,_,R,ce n b⟩) (λn b d5=>c.dis id m _ _ i R d8 n b (ce n d5)) h a
  obtain⟨s,j,h,a⟩:=jc.zw a;obtain⟨ap,X,O,q,p,f⟩:=ru c j;exact c5.tQ z w x c y v l d (S:=[id,t]) ab cv ds T (λn b=>⟨id,ab,_,i,b⟩) q p (by rw[f];simp) (by rw[f];simp) (by rw[f];simp) h a
 ·rename_i id gf f8 u;split at a
  case h_2=>exact a.elim
  rename_i hc gs i bs;split at a
  case h_2=>exact a.elim
  rename_i e f9;cases b:(aT V e&&Nat.ble e.size 1300&&e.hS) with
  |false=>rw[b] at a;exact a.elim
  |true=>
  rw[b] at a;simp only[a5] at b;obtain⟨⟨l,d⟩,co⟩:=b;have d:=eo d;simp only[cond_true] at a;split at a
  ·rename_i s j;obtain⟨k,⟨ad,h⟩,a⟩:=a;exact DU z w x c y v l d co u i bs ad (ru c (by rw[j];exact rfl)) h a
  ·rename_i gt hi f3 j;obtain⟨⟨k,fn⟩,⟨ad,el,h⟩,a⟩:=a;exact DU z w x c y v l d co u i bs ad (ru c (by rw[j];exact⟨fn,el,rfl⟩)) h a
  exact a.elim
 ·rename_i id dl ci u;split at a
  case h_2=>exact a.elim
  rename_i e k i;cases b:(aT V e&&Nat.ble e.size 1300) with
  |false=>rw[b] at a;exact a.elim
  |true=>
  rw[b] at a;simp only[a5] at b;obtain⟨l,d⟩:=b;have d:=eo d;simp only[cond_true] at a;rw[u] at r;obtain⟨I,T,ft⟩:=c.tree id _ i;generalize H:F.eval A=d1 at r;cases r with|jm=>(obtain⟨s,j,h,a⟩:=jc.zw a;obtain⟨ap,X,O,q,p,f⟩:=ru c j;exact c5.tQ z w x c y v l d (S:=[id,t]) ab (xs:=[]) (f1:=[]) H ⟨none,0,rfl,.inl ⟨rfl,rfl,rfl,rfl⟩⟩ ab ab q p (by rw[f];simp) (by rw[f];simp) ab (by simpa using h) (by simpa using a))|view M am em eq ex=>
  rename_i n ge gc Y;rw[i] at M;cases M;obtain⟨ai,_,L⟩:=aJ.en.1 am;cases ai;obtain⟨s,j,h,a⟩:=jc.zw a;obtain⟨ap,X,O,q,p,f⟩:=ru c j;rw[L] at I;obtain⟨f0,aq,fp,fs⟩:=TH (show aG (aY D C.B) J (.osl e) _ k (G id) from I) T em eq ex;have f6:((k.take ci).drop dl).length=ci-dl:=(by obtain⟨f5,_⟩:=hC.osl (show aG (aY D C.B) J (.osl e) _ k (G id) from I);simp;omega);exact c5.tQ z w x c y v l d (S:=[id,t]) ab H aq fp (λn b=>⟨id,ab,_,i,fs n b⟩) q p (by rw[f];simp) (by rw[f];simp) (by rw[f];simp) h a
 ·rename_i u;split at a
  case h_2=>exact a.elim
  rename_i e f4;cases b:(aT V e&&Nat.ble e.size 1300) with
  |false=>rw[b] at a;exact a.elim
  |true=>
  rw[b] at a;simp only[a5] at b;obtain⟨l,d⟩:=b;have d:=eo d;simp only[cond_true] at a;rw[u] at r;generalize H:F.eval A=d1 at r;cases r;obtain⟨s,j,h,a⟩:=jc.zw a;obtain⟨ap,X,O,q,p,f⟩:=ru c j;exact c5.tQ z w x c y v l d (S:=[t]) ab (xs:=[]) (f1:=[]) H ⟨none,0,rfl,.inl ⟨rfl,rfl,rfl,rfl⟩⟩ ab ab q p (by rw[f];simp) (by rw[f];simp) ab (by simpa using h) (by simpa using a)
 exact a.elim
end
end
section
def fQ (E:dz) (C:c8) (B:Array Oper) (g:cO) (st:aB) (Q:aB->Prop):Prop:=
 ∀(a:Act) (e:World),ez C st a.tmps e->∀c:Exit->Act->World->Prop,(∀d b f,Q d->b.defers=a.defers->ez C d b.tmps f->c .normal b f)->wpOps E.P B c g a e
def hZ (B:Array Oper) (st:aB) (d:Oper) (a:Bool):Prop:=
 match d.guard with
 |none=>a=true
 |some (c,e)=>match(B[c]?).bind (·.dst) with
  |some b=>match gt st.g b with
   |.val .bool f=>(f==e)=a
   |.bD (.tuple _)=>a=false
   |_=>False
  |none=>False
section
variable {E:dz} {C:c8} {st:aB} {B:Array Oper} {Q:aB->Prop}
theorem hZ.ok {c:Act} (j:bi C st c.tmps e l p q) {m:Oper} {i:Bool} (b:hZ B st m i):Region.wanted m (yielded B c.tmps)=i:=by
 unfold hZ at b;unfold Region.wanted;split at b
 ·rename_i g;rw[g];exact b.symm
 rename_i v u g;rw[g];split at b
 ·rename_i d k;split at b
  ·rename_i n h;have:=j.tmp d;rw[h] at this;generalize a:c.tmps.getD d undef=t at this;cases this with|val r=>
   obtain⟨_,rfl⟩:=r;have o:c.tmps[d]?=some (.bool n):=by
    rw[wc] at a;cases f:c.tmps[d]? with
    |none=>rw[f] at a;cases a
    |some s=>rw[f] at a;simp only[rP] at a;rw[a];rfl
   simp only[yielded,k,aQ,o];rw[<-b];cases n<;>cases u<;>rfl
  ·rename_i w h;have:=j.tmp d;rw[h] at this;generalize a:c.tmps.getD d undef=t at this;cases this;subst b;simp only[yielded,k,aQ];rw[wc] at a;cases f:c.tmps[d]? with
   |none=>rfl
   |some s=>rw[f] at a;simp only[rP] at a;rw[a];rfl
  exact b.elim
 exact b.elim
def fQ.nil (b:Q st):fQ E C B [] st Q:=λa e c _ d=>d st a e b rfl c
def fQ.op {a:Oper} (p:B[c]?=some a) (t:hZ B st a true) (i:c5 E C a st (λd=>fQ E C B n d Q)):fQ E C B (c::n) st Q:=by intro f v b e q;obtain⟨y,A,z,k⟩:=id b;simp only[wpOps,p];rw[t.ok k,al rfl];exact .inl (i f v b _ _ (λd g w o l r=>o g w r e (λu h x j m s=>q u h x j (m.trans l) s)))
def fQ.skip {a:Oper} (q:B[N]?=some a) (m:a.dst=some c) (p:C.ok c) (t:hZ B st a false) (j:fQ E C B n ⟨(c,.bD undef)::st.g,st.h⟩ Q):fQ E C B (N::n) st Q:=by intro y w l e r;obtain⟨d,u,i,b⟩:=id l;simp only[wpOps,q];rw[t.ok b,ah ab,m];exact j _ w ⟨d,u,i,b.put p (.bD undef)⟩ e (λv f x k o s=>r v f x k o s)
def ez.tZ {b:cG} {c:World} {st a:aB} (f:ez C st b c) (j:l1 a.g st) (k:l3 a.h st) (l:jE a.g a.h=true):ez C a b c:=by obtain⟨d,m,e,i⟩:=f;exact⟨d,m,e,i.tZ j k (jE.get l)⟩
def J (E:dz) (C:c8) (e:Code) (st:aB) (Q:Exit->aB->Prop):Prop:=
 ∀(a:Act) (d:World),ez C st a.tmps d->a.defers=[]->e.wp E.P (λf b g=>∃c,Q f c/\ez C c b.tmps g/\b.defers=[]) a d
variable {A:Exit->aB->Prop}
def J.TL {a:Code} (f:l1 z.g st) (i:l3 z.h st) (j:jE z.g z.h=true) (c:J E C a z A):J E C a st A:=λb k d e=>c b k (d.tZ f i j) e
def J.region {id:Nat} (c:fQ E C B (List.range B.size) st (λa=>A .normal a)):J E C (.region id B false) st A:=
 λb i d e=>wp_region (c b i d _ (λa _a' _w' g f h=>⟨a,g,h,f.trans e⟩))
def J.skip (a:A .normal st):J E C .skip st A:=λ_ _ b c=>wp_skip ⟨st,a,b,c⟩
def J.exit {id:Nat} (a:A (.exit id) st):J E C (.exit id) st A:=λ_ _ b c=>wp_exit ⟨st,a,b,c⟩
def J.ret (a:A .ret st):J E C .ret st A:=λ_ _ b c=>wp_ret ⟨st,a,b,c⟩
def Sq (E:dz) (C:c8) (b:Code) (A:Exit->aB->Prop):Exit->aB->Prop
 |.normal,a=>J E C b a A
 |e,a=>A e a
def J.seq {d e:Code} (i:J E C d st (Sq E C e A)):J E C (.seq d e) st A:=λf m j k=>by
 refine wp_seq (wp_mono (i f m j k) ?_);rintro h g n ⟨l,a,b,c⟩;cases h with
 |normal=>exact a g n b c
 |_=>exact⟨l,a,b,c⟩
def J.cond {a:Operand} {l m:Code} {c:Bool} (n:aI st.g a=.val .bool c) (p:c=true->J E C l st A) (o:c=false->J E C m st A):J E C (.cond a l m) st A:=by
 rintro b k ⟨f,j,h,e⟩ i;have:=e.aI a;rw[n] at this;generalize q:b.eval a=s at this;cases this with|val r=>
 obtain⟨_,rfl⟩:=r;exact wp_cond_split q (λd=>p d b k ⟨f,j,h,e⟩ i) (λd=>o d b k ⟨f,j,h,e⟩ i)
def Ac (id:Nat) (A:Exit->aB->Prop):Exit->aB->Prop
 |.exit b,a=>match Nat.beq b id with
  |true=>A .normal a
  |false=>A (.exit b) a
 |e,a=>A e a
def J.block {id:Nat} {g:Code} (j:J E C g st (Ac id A)):J E C (.block id g) st A:=λh n k m=>by
 refine wp_block (wp_mono (j h n k m) ?_);rintro i o p ⟨f,a,b,c⟩;cases i with
 |exit e=>
  simp only[Exit.inBlock];simp only[Ac] at a;by_cases d:e=id
  ·subst d;rw[oJ] at a;rw[al rfl];exact⟨f,a,b,c⟩
  have:Nat.beq e id=false:=by
   cases l:Nat.beq e id
   ·rfl
   exact absurd (dW l) d
  rw[this] at a;rw[ah d];exact⟨f,a,b,c⟩
 |_=>exact⟨f,a,b,c⟩
def he {a c:Type} (b:a->Option (a⊕c)):Nat->a->Option c
 |0,_=>none
 |n+1,e=>match b e with
  |none=>none
  |some (.inl f)=>he b n f
  |some (.inr d)=>some d
open Classical in
def loop {σ ρ:Type} (a:σ->Option (σ⊕ρ)) (d:σ):Option ρ:=
 if h:∃c,∃b,he a b d=some c then some h.choose else none
def BE {e g:Type} {f:e->Option (e⊕g)}:∀{n b:Nat} {d:e} {c:g},n<=b->he f n d=some c->he f b d=some c
 |0,_,_,_,_,a=>by cases a
 |n+1,0,_,_,a,_=>by omega
 |n+1,b+1,d,c,h,a=>by
  simp only[he] at a|-;split at a
  ·cases a
  ·exact BE U a
  exact a
def vg {e:y->Option (y⊕G)} {g:y} {b:G}:loop e g=some b↔∃a,he e a g=some b:=by
 unfold loop;constructor
 ·intro f;split at f
  ·rename_i c;obtain⟨a,d⟩:=c.choose_spec;exact⟨a,by rw[d];exact f⟩
  cases f
 rintro⟨a,d⟩;have c:∃b,∃a,he e a g=some b:=⟨b,a,d⟩;rw[dif_pos c];obtain⟨i,k⟩:=c.choose_spec;have j:=BE (Nat.le_max_left a i) d;have h:=BE (Nat.le_max_right a i) k;rw[j] at h;exact h.symm
def N8 (d:y->Option (y⊕G)) (e:y):loop d e=match d e with
 |none=>none
 |some (.inl g)=>loop d g
 |some (.inr f)=>some f:=by
 apply Option.ext;intro f;rw[vg];cases c:d e with
 |none=>
  simp only[reduceCtorEq,iff_false];rintro⟨b,a⟩;cases b with
  |zero=>cases a
  |succ b=>simp only[he,c] at a;cases a
 |some i=>
  cases i with
  |inl g=>
   simp only;rw[vg];constructor
   ·rintro⟨b,a⟩;cases b with
    |zero=>cases a
    |succ b=>simp only[he,c] at a;exact⟨b,a⟩
   rintro⟨b,a⟩;exact⟨b+1,by simp only[he,c];exact a⟩
  |inr j=>
   simp only;constructor
   ·rintro⟨b,a⟩;cases b with
    |zero=>cases a
    |succ b=>simp only[he,c] at a;exact a
   intro h;exact⟨1,by simp only[he,c];exact h⟩
def J.loop {σ ρ L:Type} {c:Code} (ih:σ->aB) {z:σ->Option (σ⊕ρ)} {s:σ} {w:ρ->Option L} {K:L} (O:(loop z s).bind w=some K) (T:l1 (ih s).g st) (U:l3 (ih s).h st) (V:jE (ih s).g (ih s).h=true) (S:∀e l,z e=some l->(match l with|.inl _=>True|.inr I=>w I=some K)->J E C c (ih e) (λd t=>match l with
  |.inl m=>d=.normal/\l1 (ih m).g t/\l3 (ih m).h t/\jE (ih m).g (ih m).h=true
  |.inr _=>(d=.normal->False)/\A d t)):J E C (.loop c) st A:=by
 obtain⟨I,Z,W⟩:=bS.1 O;obtain⟨r,a⟩:=vg.1 Z;have am:∀(r:Nat) (e:σ) (f:Act) (n:World),he z r e=some I->ez C (ih e) f.tmps n->f.defers=[]->∀(j:Frame) (w:List Item) (k:List Frame),
  ∃d v D,(∃t,A d t/\ez C t v.tmps D/\v.defers=[])/\Arrives E.P (lone (j.at f (.code c::.inLoop c::w)) k n) j w k d v D:=by
  intro r
  induction r with
  |zero=>intro e f n a;cases a
  |succ r ad=>
   intro e f n a F G j B k;simp only[he] at a;cases H:z e with
   |none=>rw[H] at a;cases a
   |some l=>
    rw[H] at a;have R:=S e l H (by
     cases l with
     |inl m=>trivial
     |inr av=>simp only at a;cases a;exact W)
    obtain⟨d,o,u,⟨y,b,q,p⟩,i⟩:=R f n F G j (.inLoop c::B) k;cases l with
    |inl m=>
     simp only at a b;obtain⟨rfl,aq,an,ap⟩:=b;obtain⟨N,M,a0,Y,Q⟩:=ad m o u a (q.tZ aq an ap) p j B k;exact⟨N,M,a0,Y,.of_steps (Steps.trans i (.one step_inLoop)) Q⟩
    |inr av=>
     obtain⟨X,b⟩:=b;cases d with
     |normal=>exact(X rfl).elim
     |exit id=>exact⟨_,o,u,⟨y,b,q,p⟩,.pass (x:=.inLoop c) rfl (λ_ _=>.inl ab) i⟩
     |goto a4=>exact⟨_,o,u,⟨y,b,q,p⟩,.pass (x:=.inLoop c) rfl (λ_ _=>.inl ab) i⟩
     |ret=>exact⟨_,o,u,⟨y,b,q,p⟩,.pass (x:=.inLoop c) rfl (λ_ _=>.inl ab) i⟩
     |panic a3=>exact⟨_,o,u,⟨y,b,q,p⟩,.pass (x:=.inLoop c) rfl (λ_ _=>.inl ab) i⟩
     |outgrown=>exact⟨_,o,u,⟨y,b,q,p⟩,.pass (x:=.inLoop c) rfl (λ_ _=>.inl ab) i⟩
 refine J.TL T U V (λf n F G j B k=>?_);obtain⟨d,v,D,b,i⟩:=am r s f n a F G j B k;exact⟨d,v,D,b,.of_steps (.one step_loop) i⟩
end
end
def pB:bO->bO->Bool
 |.bn,_=>true
 |.dO,.dO=>true
 |.dO,.bn=>false
def sz:bO->Bool
 |.dO=>true
 |.bn=>false
def bQ:af->af->Bool
 |.int i,.int j=>if i=j then true else false
 |.bool,.bool|.str,.str|.nil,.nil=>true
 |.aV c a,.aV d b=>pB c d&&bQ a b
 |.osl a,.aV c b=>sz c&&bQ a b
 |.ptr c a,.ptr d b=>pB c d&&bQ a b
 |.st a,.st b=>bQ a b
 |.pr e f,.pr g h=>bQ e g&&bQ f h
 |.mp a,.dh c b=>sz c&&bQ a b
 |.dh c a,.dh d b=>pB c d&&bQ a b
 |_,_=>false
theorem pB.ok (e:∀c,l c->F c) {b:bO} (d:pB Q b=true) (a:aY V l Q c):aY V F b c:=by
 cases Q<;>cases b
 ·exact a
 ·exact .inl a
 ·cases d
 exact a.imp id (e c)
theorem sz.ok (a:sz Q=true):Q=.dO:=by cases Q;cases a;rfl
def bQ.den:∀{d υ:af},bQ d υ=true->d.den=υ.den:=by
 intro d
 induction d with
 |aV f c b=>
  intro υ a;cases υ<;>simp only[bQ] at a<;>try (cases a;done)
  simp only[a5] at a;exact congrArg List (b a.2)
 |ptr f c b=>
  intro υ a;cases υ<;>simp only[bQ] at a<;>try (cases a;done)
  simp only[a5] at a;exact congrArg Option (b a.2)
 |osl c b=>
  intro υ a;cases υ<;>simp only[bQ] at a<;>try (cases a;done)
  simp only[a5] at a;exact congrArg List (b a.2)
 |st c b=>
  intro υ a;cases υ with
  |st k=>exact b (υ:=k) (by simpa only[bQ] using a)
  |_=>simp only[bQ] at a;cases a
 |pr g h i j=>
  intro υ a;cases υ<;>simp only[bQ] at a<;>try (cases a;done)
  simp only[a5] at a;show(g.den×h.den)=_;rw[i a.1,j a.2]
 |int l=>intro υ a;cases υ<;>simp only[bQ] at a<;>first|rfl|cases a
 |bool=>intro υ a;cases υ<;>simp only[bQ] at a<;>first|rfl|cases a
 |str=>intro υ a;cases υ<;>simp only[bQ] at a<;>first|rfl|cases a
 |nil=>intro υ a;cases υ<;>simp only[bQ] at a<;>first|rfl|cases a
 |optr c _=>intro υ a;cases υ<;>simp only[bQ] at a<;>cases a
 |bP=>intro υ a;cases υ<;>simp only[bQ] at a<;>cases a
 |mp c b=>
  intro υ a;cases υ<;>simp only[bQ] at a<;>try (cases a;done)
  simp only[a5] at a;exact congrArg (λe=>Option (List (Int×e)×Nat)) (b a.2)
 |dh f c b=>
  intro υ a;cases υ<;>simp only[bQ] at a<;>try (cases a;done)
  simp only[a5] at a;exact congrArg (λe=>Option (List (Int×e)×Nat)) (b a.2)
theorem bQ.size:∀{c b:af},bQ c b=true->c.size=b.size:=by
 intro c
 induction c with
 |st i d=>intro b a;cases b<;>simp only[bQ] at a<;>first|(simp only[af.size];exact d a)|cases a
 |pr g h e f=>
  intro b a;cases b<;>simp only[bQ] at a<;>try (cases a;done)
  simp only[a5] at a;simp only[af.size];rw[e a.1,f a.2]
 |_=>intro b a;cases b<;>simp only[bQ] at a<;>first|rfl|cases a
def Ft (l:y=G) {e:Option (List (Int×y)×Nat)} {i:Option (List (Int×G)×Nat)} (m:HEq e i):(e=none/\i=none)\/∃j c k,e=some (j,c)/\i=some (k,c)/\∀b:List (Int×Nat×y),hF b j c->∃f:List (Int×Nat×G),hF f k c/\f.length=b.length/\∀(h:Nat) (d:Int×Nat×G),f[h]?=some d->∃a:Int×Nat×y,b[h]?=some a/\a.1=d.1/\a.2.1=d.2.1/\HEq a.2.2 d.2.2:=by
 subst l;cases m;cases e with
 |none=>exact .inl ⟨rfl,rfl⟩
 |some g=>exact .inr ⟨g.1,g.2,g.1,rfl,rfl,λb n=>⟨b,n,rfl,λh a o=>⟨a,o,rfl,rfl,HEq.rfl⟩⟩⟩
def bQ.bp {a b:af} (d:bQ a b=true) (c:cI):bp b c=h1.bp a c:=by cases a<;>cases b<;>simp only[bQ] at d<;>first|rfl|cases d
def Fs (f:G=y) {c:List G} {d:List y} (g:HEq c d):d.length=c.length/\∀(b:Nat) (a:y),d[b]?=some a->∃e,c[b]?=some e/\HEq e a:=by subst f;cases g;exact⟨rfl,λb a h=>⟨a,h,HEq.rfl⟩⟩
def Nd (e:y=G) {b:Option y} {c:Option G} (f:HEq b c):(b=none/\c=none)\/∃a d,b=some a/\c=some d/\HEq a d:=by
 subst e;cases f;cases b with
 |none=>exact .inl ⟨rfl,rfl⟩
 |some a=>exact .inr ⟨a,a,rfl,rfl,HEq.rfl⟩
def Nf {c d:Type} (e:y=c) (f:G=d) {a:y×G} {b:c×d} (g:HEq a b):HEq a.1 b.1/\HEq a.2 b.2:=by subst e;subst f;cases g;exact⟨HEq.rfl,HEq.rfl⟩
def aG.dO (L:∀c,F c->l c):∀{B υ:af} {f:cI} {x:B.den} {y:υ.den} {g:cO},bQ B υ=true->HEq x y->aG (aY V F) e B f x g->(∀c∈g,l c)->aG (aY V l) e υ f y []:=by
 intro B
 induction B with
 |int d4=>
  intro υ f x y g a d b _;cases υ<;>simp only[bQ] at a<;>try (cases a;done)
  split at a
  ·rename_i ap;subst ap;cases d;exact⟨rfl,b.2⟩
  cases a
 |bool=>intro υ f x y g a d b _;cases υ<;>simp only[bQ] at a<;>first|(cases a;done)|(cases d;exact⟨rfl,b.2⟩)
 |str=>intro υ f x y g a d b _;cases υ<;>simp only[bQ] at a<;>first|(cases a;done)|(cases d;exact⟨rfl,b.2⟩)
 |nil=>intro υ f x y g a d b _;cases υ<;>simp only[bQ] at a<;>first|(cases a;done)|(cases d;exact⟨rfl,b.2⟩)
 |optr w _=>intro υ f x y g a;cases υ<;>simp only[bQ] at a<;>cases a
 |bP=>intro υ f x y g a;cases υ<;>simp only[bQ] at a<;>cases a
 |mp w m=>
  intro υ f x y g a d b i;cases υ<;>simp only[bQ] at a<;>try (cases a;done)
  simp only[a5] at a;obtain rfl:=sz.ok a.1;rcases Ft (bQ.den a.2) d with⟨rfl,rfl⟩|⟨co,C,cs,rfl,rfl,k⟩
  ·exact⟨rfl,b.2⟩
  obtain⟨c,I,E,aq,u,M,v,A,S⟩:=b;obtain⟨G,N,j,k⟩:=k E M;refine⟨c,I,G,aq,rfl,N,.inr (i c (by rw[u];simp)),v,by rw[j];exact A,λh R O=>?_⟩;obtain⟨Q,n,p,J,K⟩:=k h R O;obtain⟨o,q,r,s⟩:=S h Q n;exact⟨o,by rw[<-bQ.size a.2];exact q,by rw[r,bQ.bp a.2,p,J],m a.2 K s ab⟩
 |dh Z w m=>
  intro υ f x y g a d b i;cases υ<;>simp only[bQ] at a<;>try (cases a;done)
  simp only[a5] at a;rcases Ft (bQ.den a.2) d with⟨rfl,rfl⟩|⟨co,C,cs,rfl,rfl,k⟩
  ·exact⟨rfl,b.2⟩
  obtain⟨c,I,E,aq,u,M,z,v,A,S⟩:=b;obtain⟨G,N,j,k⟩:=k E M;refine⟨c,I,G,aq,rfl,N,pB.ok L a.1 z,v,by rw[j];exact A,λh R O=>?_⟩;obtain⟨Q,n,p,J,K⟩:=k h R O;obtain⟨o,q,r,s⟩:=S h Q n;exact⟨o,by rw[<-bQ.size a.2];exact q,by rw[r,bQ.bp a.2,p,J],m a.2 K s ab⟩
 |st w m=>
  intro υ f x y g a d b i;cases υ with
  |st D=>exact m (υ:=D) (x:=x) (y:=y) (by simpa only[bQ] using a) d b i
  |_=>simp only[bQ] at a;cases a
 |pr am c ce ci=>
  intro υ f x y g a d b i;cases υ<;>simp only[bQ] at a<;>try (cases a;done)
  rename_i C d1;simp only[a5] at a;obtain⟨d2,f2,rfl,n,p⟩:=b;obtain⟨ai,av⟩:=Nf (bQ.den a.1) (bQ.den a.2) d;have Y:=bQ.size a.1;exact⟨[],[],rfl,by rw[<-Y];exact ce a.1 ai n (λc z=>i c (by simp[z])),by rw[<-Y];exact ci a.2 av p (λc z=>i c (by simp[z]))⟩
 |aV Z w m=>
  intro υ f x y g a d b i;obtain⟨rfl,X,H,rfl,aq,u,v⟩:=b;cases υ<;>simp only[bQ] at a<;>try (cases a;done)
  rename_i ad D;simp only[a5] at a;obtain⟨j,k⟩:=Fs (bQ.den a.2) d;refine⟨rfl,X,H,by rw[j],by rw[j];exact aq,u,?_⟩;rcases v with rfl|⟨c,t,rfl,a3,bs⟩
  ·left;exact k7 (by rw[j];rfl)
  right;refine⟨c,t,rfl,pB.ok L a.1 a3,λh T P=>?_⟩;obtain⟨W,n,p⟩:=k h T P;obtain⟨o,q,r,s⟩:=bs h W n;rw[<-bQ.size a.2];exact⟨o,q,r,m a.2 p s ab⟩
 |osl w m=>
  intro υ f x y g a d b i;cases υ<;>simp only[bQ] at a<;>try (cases a;done)
  rename_i ad D;simp only[a5] at a;obtain rfl:=sz.ok a.1;obtain⟨X,H,rfl,b⟩:=b;obtain⟨j,k⟩:=Fs (bQ.den a.2) d;rcases b with⟨rfl,rfl,rfl,rfl⟩|⟨c,t,a0,rfl,rfl,aq,u,v,A⟩
  ·obtain rfl:y=[]:=k7 (by rw[j];rfl);exact⟨rfl,none,0,rfl,a2 _,λ_=>rfl,.inl rfl⟩
  refine⟨rfl,some ⟨c,t,none⟩,H,by rw[j],by rw[j];exact u,(λa=>by cases a),.inr ⟨c,t,rfl,.inr (i c ab),λh T P=>?_⟩⟩;obtain⟨W,n,p⟩:=k h T P;have d3:h<x.length:=(ec.1 n).1;obtain⟨o,q,r,s⟩:=A h W (a0[h]'(by omega)) n ab
  rw[<-bQ.size a.2];exact⟨o,q,r,m a.2 p s (λC bl=>i C (eJ _ (hE.2 ⟨_,dj U,bl⟩)))⟩
 |ptr Z w m=>
  intro υ f x y g a d b i;obtain⟨rfl,b⟩:=b;cases υ<;>simp only[bQ] at a<;>try (cases a;done)
  rename_i ad D;simp only[a5] at a;refine⟨rfl,?_⟩;rcases Nd (bQ.den a.2) d with⟨rfl,rfl⟩|⟨am,c,rfl,rfl,a4⟩
  ·exact b
  obtain⟨an,t,o,cv,dl,ds,aP,d0⟩:=b;exact⟨an,t,o,cv,pB.ok L a.1 dl,by rw[<-bQ.size a.2];exact ds,aP,m a.2 a4 d0 ab⟩
inductive lc:(τ:af)->τ.den->(υ:af)->υ.den->Prop
 |same {τ υ:af} {x:τ.den} {y:υ.den} (h:bQ τ υ=true) (Nc:HEq x y):lc τ x υ y
 |ptr {t u:af} {x:t.den} {y:u.den} (h:bQ t u=true) (Nc:HEq x y):lc (.optr t) x (.ptr .dO u) (some y)
def lc.rep {B:Nat->Prop} (g:∀a,B a->l a) {j:d.den} {k:o.den} (b:lc d j o k) (h:aG (aY F B) e d i j n) (f:∀a∈n,l a):aG (aY F l) e o i k []:=by
 cases b with
 |same b c=>exact h.dO g b c f
 |ptr b c=>
  obtain⟨a,r,u,p,rfl,rfl,aq,s,v,t⟩:=h;exact⟨rfl,a,r,p,rfl,.inr (f a ab),by rw[<-bQ.size b];exact aq,s,t.dO g b c (λm q=>f m (by simp[q]))⟩
def lc.st {c:d.den} {e:o.den} (a:lc d c o e) (b:cI):bp d b=bp o b:=by
 cases a with
 |same a _=>cases d<;>cases o<;>first|rfl|(simp only[bQ] at a;cases a;done)
 |ptr a _=>rfl
section
def jy {c d e:Type} (b:c->d->e->Prop):List c->List d->List e->Prop
 |[],[],[]=>True
 |a::as,f::g,h::i=>b a f h/\jy b as g i
 |_,_,_=>False
def fY {c d:Type} (b:c->d->Prop):List c->List d->Prop
 |[],[]=>True
 |a::as,e::f=>b a e/\fY b as f
 |_,_=>False
theorem DE {d e:Type} {f:d->e->Prop}:∀{as:List d} {c:List e},fY f as c->c.length=as.length
 |[],[],_=>rfl
 |[],_::_,b=>b.elim
 |_::_,[],b=>b.elim
 |a::as,g::c,b=>by have:=DE b.2;grind
def z2 {e f:Type} {c:e->f->Prop}:∀{as:List e} {d:List f} {g:List e} {h:List f},fY c as d->fY c g h->fY c (as++g) (d++h)
 |[],[],_,_,_,b=>b
 |[],_::_,_,_,b,_=>b.elim
 |_::_,[],_,_,b,_=>b.elim
 |a::as,j::d,_,_,b,i=>⟨b.1,z2 b.2 i⟩
theorem wE {h i:Type} {f:h->i->Prop}:∀{as:List h} {c:List i},as.length=c.length->(∀(e:Nat) a b,as[e]?=some a->c[e]?=some b->f a b)->fY f as c
 |[],[],_,_=>trivial
 |[],_::_,d,_=>by cases d
 |_::_,[],d,_=>by cases d
 |a::as,b::c,d,g=>⟨g 0 a b rfl rfl,wE (by grind) (λe j k l m=>g (e+1) j k (by grind) (by grind))⟩
def z5 {b g h:Type} {c:g->h->Prop} {d:b->g} {e:b->h} (f:∀x,c (d x) (e x)):∀a:List b,fY c (a.map d) (a.map e)
 |[]=>trivial
 |x::a=>⟨f x,z5 f a⟩
inductive e7 where
 |v (t:az)
 |m (t:az) (y:t.1.den)
 |o (t:az)
 |c (f:Nat) (Ue:List az)
 |n
 |s (f:Nat) (l:cO)
 |w (σ:af) (xs:List σ.den) (lo hi:Nat) (wa:List σ.den)
def tq (I c:Nat->Prop) (w:World) (a:az) (d:Value):Prop:=∃b,d=bp a.1 b/\aG (aY I c) w a.1 b a.2 []
def tj (I f:Nat->Prop) (w:World):e7->Value->cO->Prop
 |.v b,d,a=>a=[]/\∃e,d=bp b.1 e/\aG (aY I f) w b.1 e b.2 []
 |.m b _,d,a=>∃e,d=bp b.1 e/\aG (aY I f) w b.1 e b.2 a
 |.o b,d,a=>∃e,d=bp b.1 e/\aG (aY I f) w b.1 e b.2 a
 |.n,d,a=>a=[]/\d=.slice none 0 0
 |.s _ _,_,a=>a=[]
 |.w q h g j _,d,a=>∃k l i,d=.slice (some ⟨k,l+g*q.size,none⟩) (j-g) (i-g)/\(g<j/\j<=h.length/\h.length<=i)/\aG (aY I f) w (.osl q) [.slice (some ⟨k,l,none⟩) h.length i] h a
 |.c r t,d,a=>a=[]/\∃p:cI,d=.func (.func r) #[] p.toArray/\fY (tq I f w) t p
def ms:Nat->List e7->Option cl
 |_,[]=>none
 |k,.s a b::_=>some (k,a,b)
 |k,_::c=>ms (k+1) c
def Dn (w:World) (b:cI) (i:cD):Option cl->Prop
 |none=>True
 |some (d,h,e)=>d<b.length/\(∀c∈e,c<b.length)/\∃a f g,b.getD d undef=.pointer (some ⟨a,f,none⟩)/\a<w.heap.size/\a∉i.flatten/\w.cell? ⟨a,f,none⟩=some (.func (.func h) #[] g)/\g.toList=e.map λc=>b.getD c undef
def tk (I e:Nat->Prop) (w:World):e7->Value->cO->Prop
 |.m i n,d,a=>∃g,d=bp i.1 g/\aG (aY I e) w i.1 g n a
 |.w j l b k o,d,a=>∃f h c,d=.slice (some ⟨f,h+b*j.size,none⟩) (k-b) (c-b)/\b<c/\aG (aY I e) w (.osl j) [.slice (some ⟨f,h,none⟩) l.length c] o a
 |_,_,a=>a=[]
def ws (I:Nat->Prop) (w:World) (a:az) (d:Value) (c:cO):Prop:=∃b,d=bp a.1 b/\aG (aY I (λ_=>False)) w a.1 b a.2 c
def m8:cI->Value
 |[v]=>v
 |vs=>.tuple vs.toArray
structure Dm (I B:Nat->Prop) (w:World) (fs:cD) (args:List e7) (vs:cI) (res:List az) (I':Nat->Prop) (gs hs:cD) (Sk:cI) (w':World):Prop where
 args:jy (tk I' B w') args vs gs
 res:jy (ws I' w') res Sk hs
 sQ:(gs.flatten++hs.flatten).Nodup
 Ee:∀b∈gs.flatten++hs.flatten,¬I' b/\¬B b/\b<w'.heap.size/\(w.heap.size<=b\/b∈fs.flatten)
 i:∀b,I b->I' b
 i2:∀b,I' b->I b\/(b<w'.heap.size/\(w.heap.size<=b\/b∈fs.flatten))
 size:w.heap.size<=w'.heap.size
 os:w'.os=w.os
 tape:w'.tape=w.tape
 output:w'.output=w.output
 evo:∀b,b<w.heap.size->h0 w w' b
 heap:∀b,b<w.heap.size->b∉fs.flatten->w'.heap[b]?=w.heap[b]?
def iA (E:dz) (I:Nat->Prop) (w:World):Prop:=∀a∈E.glob,aG (aY I λ_=>False) w (.aV .bn (.int a.k)) [.slice (some ⟨a.b,0,none⟩) a.xs.length a.xs.length] a.xs []
def iA.mono {E:dz} {I I':Nat->Prop} {w w':World} (g:iA E I w) (c:∀a,I a->I' a) (i:∀a,I a->w'.heap[a]?=w.heap[a]?):iA E I' w':=λf h=>
 (g f h).mono (λe a d=>by
  have b:I a:=(by cases e;exact d;exact d.elim id False.elim);exact⟨by cases e;exact c a b;exact .inl (c a b),bB.of_heap (i a b)⟩) (λa b=>by cases b)
def oA (E:dz) (h:FuncId) (e:List e7) (k:List az):Prop:=
 ∀(w:World) (I c:Nat->Prop) (d:cI) (b:cD),(∀a,I a\/c a->a<w.heap.size)->jy (tj I c w) e d b->b.flatten.Nodup->(∀a∈b.flatten,¬I a/\¬c a/\a<w.heap.size)->Dn w d b (ms 0 e)->iA E I w->Calls E.P h d.toArray w (λg w'=>∃I' i j f,g=.returned (m8 f)/\Dm I c w b e d k I' i j f w')
def af.dS:af->Bool
 |.aV .dO _|.ptr .dO _|.dh .dO _=>false
 |.aV .bn a|.ptr .bn a|.osl a|.optr a|.st a|.mp a|.dh .bn a=>a.dS
 |.pr b c=>b.dS&&c.dS
 |_=>true
def oy:af->Bool
 |.pr _ _|.nil|.bP=>false
 |_=>true
def RO (b:oy d=true) (c:i.length=d.size) (e:A.length=d.size) (a:bp d i=bp d A):i=A:=by
 have h:d.size=1->bp d i=i.headD undef->bp d A=A.headD undef->i=A:=(by intro g ai f;rw[g] at c e;obtain⟨k,rfl⟩:=rL.1 c;obtain⟨l,rfl⟩:=rL.1 e;rw[ai,f] at a;simpa using a);cases d with
 |st j=>have a:Value.agg i.toArray=Value.agg A.toArray:=a;simpa using a
 |pr=>cases b
 |nil=>cases b
 |bP=>cases b
 |_=>exact h rfl rfl rfl
def p1 (g:List (Nat×az)) (f:cO):ag->az->Prop
 |.val b i,a=>lc b i a.1 a.2
 |.bD d,a=>gr a.1 d.cells.toList=some a.2/\bp a.1 d.cells.toList=d
 |.ref id h,a=>bV id f=false/\∃c b e,ak g id=some c/\bN c.1 c.2 h b e/\lc b e a.1 a.2
 |_,_=>False
def Jn (b:List (Nat×az)) (f:cO):ag->e7->Prop
 |av,.v a=>p1 b f av a
 |.ref id [],.m a _=>ak b id=some a/\a.1.dS=true/\oy a.1=true
 |.ref id [],.o a=>ak b id=some a
 |.bZ l d,.c k p=>l=k/\fY (p1 b f) d p
 |.bD e,.o a=>e=.slice none 0 0/\∃r,a=⟨.osl r,[]⟩
 |.bD e,.n=>e=.slice none 0 0
 |.view id [] h g,.w i q d j _=>ak b id=some ⟨.osl i,q⟩/\(d=h/\j=g)/\h<g/\i.dS=true
 |_,.s _ _=>True
 |_,_=>False
def lJ (c:List (Nat×az)) (b:cO):List ag->List e7->Prop
 |[],[]=>True
 |a::as,d::e=>Jn c b a d/\lJ c b as e
 |_,_=>False
def dZ:List ag->List e7->cO
 |.ref id []::as,.m _ _::a=>id::dZ as a
 |.ref id []::as,.o _::a=>id::dZ as a
 |.view id [] _ _::as,.w _ _ _ _ _::a=>id::dZ as a
 |_::as,_::a=>dZ as a
 |_,_=>[]
def jG:List ag->List e7->cO
 |.ref id []::as,.m _ _::a=>id::jG as a
 |.view id [] _ _::as,.w _ _ _ _ _::a=>id::jG as a
 |_::as,_::a=>jG as a
 |_,_=>[]
def hq:List ag->List e7->List (Nat×az)
 |.ref id []::as,.m b c::a=>(id,⟨b.1,c⟩)::hq as a
 |.view id [] _ _::as,.w e _ _ _ d::a=>(id,⟨.osl e,d⟩)::hq as a
 |_::as,_::a=>hq as a
 |_,_=>[]
def og (a:Nat) (c:Bool) (b:Nat):Nat:=bif c then a else 1000*(a+1)+b
def pL (b:Nat) (c:Bool):Nat->List az->List ag
 |_,[]=>[]
 |j,a::d=>(bif a.1.pure then .val a.1 a.2 else .ref (og b c j) [])::pL b c (j+1) d
def gz (a:Nat) (b:Bool):Nat->List az->List (Nat×az)
 |_,[]=>[]
 |j,d::c=>bif d.1.pure then gz a b (j+1) c else(og a b j,d)::gz a b (j+1) c
def rh (a:Nat):List az->ag
 |[t]=>bif t.1.pure then .val t.1 t.2 else .ref a []
 |l=>.dg (pL a false 0 l)
def gd:List az->Bool
 |[_]=>true
 |_=>false
def gY:cO->Bool
 |[]=>true
 |a::b=>!(bV a b)&&gY b
theorem gY.ok:∀{c:cO},gY c=true->c.Nodup
 |[],_=>List.nodup_nil
 |a::e,b=>by simp only[gY,a5,Bool.not_eq_true'] at b;exact h7.2 ⟨(λd=>by rw[eQ.2 d] at b;cases b.1),gY.ok b.2⟩
def KU (c:Nat) (st:aB) (b:List ag) (a:List e7) (d:List az):aB:=
 ⟨(c,rh c d)::kill (dZ b a) (sC (jG b a)) st.g,(hq b a++gz c (gd d) 0 d)++del (dZ b a) st.h⟩
theorem aG.dS {I G B':Nat->Prop} {w:World}:∀{τ:af} {e:cI} {b:τ.den} {f:cO},τ.dS=true->aG (aY I G) w τ e b f->aG (aY I B') w τ e b f:=by
 intro τ
 induction τ with
 |aV n l h=>
  intro e b f d a;cases n
  ·obtain⟨o,r,s,aq,g,j,k⟩:=a;refine⟨o,r,s,aq,g,j,k.imp id ?_⟩;rintro⟨c,i,N,v,P⟩;refine⟨c,i,N,v,λp D F=>?_⟩;obtain⟨m,H,J,K⟩:=P p D F;exact⟨m,H,J,h (by simpa only[af.dS] using d) K⟩
  grind [af.dS]
 |ptr n l h=>
  intro e b f d a;cases n
  ·obtain⟨o,aq⟩:=a;refine⟨o,?_⟩;cases b with
   |none=>exact aq
   |some D=>
    obtain⟨c,i,m,z,A,B,aP,C⟩:=aq;exact⟨c,i,m,z,A,B,aP,h (by grind [af.dS]) C⟩
  grind [af.dS]
 |osl l h=>
  intro e b f d a;obtain⟨r,s,aq,g⟩:=a;refine⟨r,s,aq,g.imp id ?_⟩;rintro⟨c,i,M,z,A,B,aP,C,V⟩;refine⟨c,i,M,z,A,B,aP,C,λp D E F U=>?_⟩;grind [af.dS]
 |optr l h=>
  intro e b f d a;obtain⟨c,i,E,m,aq,g,j,k,y,S⟩:=a;exact⟨c,i,E,m,aq,g,j,k,y,h (by grind [af.dS]) S⟩
 |st l h=>intro e b f d a;exact h (by grind [af.dS]) a
 |mp l h=>
  intro e b f d a;cases b with
  |none=>exact a
  |some x=>
   obtain⟨c,t,q,aq,g,u,j,k,y⟩:=a;refine⟨c,t,q,aq,g,u,j,k,λp x O=>?_⟩;grind [af.dS]
 |dh n l h=>
  intro e b f d a;cases n
  ·cases b with
   |none=>exact a
   |some x=>
    obtain⟨c,t,q,aq,g,u,v,j,k,y⟩:=a;refine⟨c,t,q,aq,g,u,v,j,k,λp x O=>?_⟩;grind [af.dS]
  grind [af.dS]
 |pr T c Q R=>
  intro e b f d a;simp only[af.dS,a5] at d;obtain⟨L,f2,o,aq,g⟩:=a;exact⟨L,f2,o,Q d.1 aq,R d.2 g⟩
 |_=>intro e b f d a;exact a
theorem FX {e f:Type} (c:e->f):∀(b:List (Nat×e)) (a:Nat),ak (b.map λd=>(d.1,c d.2)) a=(ak b a).map c
 |[],_=>rfl
 |(g,v)::b,a=>by rw[eH,bG,bG,FX c b a];grind
abbrev tI:=az×cI×cO
def eG (rt:Nat->cI):List ag->List e7->cD->List (Nat×tI)
 |.ref id []::as,.m d e::a,c::b=>(id,(⟨d.1,e⟩,rt id,c))::eG rt as a b
 |.view id [] _ _::as,.w g _ _ _ f::a,c::b=>(id,(⟨.osl g,f⟩,rt id,c))::eG rt as a b
 |_::as,_::a,_::b=>eG rt as a b
 |_,_,_=>[]
def iv (a:Nat) (b:Bool):Nat->List az->cz->cD->List (Nat×tI)
 |j,f::e,g::c,h::d=>bif f.1.pure then iv a b (j+1) e c d else(og a b j,(f,g,h))::iv a b (j+1) e c d
 |_,_,_,_=>[]
theorem Ht {rt:Nat->cI}:∀{as:List ag} {bs:List e7} {gs:cD},gs.length=bs.length->(eG rt as bs gs).map (λf=>(f.1,f.2.1))=hq as bs
 |[],bs,gs,_=>by cases bs<;>cases gs<;>rfl
 |a::as,[],gs,e=>by cases gs with
  |nil=>cases a<;>first|rfl|(rename_i id b;cases b<;>rfl)|(rename_i id b h g;cases b<;>rfl)
  |cons=>cases e
 |a::as,c::bs,[],e=>by cases e
 |a::as,c::bs,i::gs,e=>by
  have d:=Ht (rt:=rt) (as:=as) (bs:=bs) (gs:=gs) (by grind);cases a with
  |ref id b=>cases b with
   |nil=>cases c<;>simp only[eG,hq,eH,d]
   |cons=>cases c<;>simp only[eG,hq,d]
  |view id b h g=>cases b with
   |nil=>cases c<;>simp only[eG,hq,eH,d]
   |cons=>cases c<;>simp only[eG,hq,d]
  |_=>cases c<;>simp only[eG,hq,d]
theorem zj {d:Nat} {s:Bool}:∀{j:Nat} {res:List az} {cs:cz} {hs:cD},cs.length=res.length->hs.length=res.length->(iv d s j res cs hs).map (λe=>(e.1,e.2.1))=gz d s j res
 |j,[],cs,hs,a,b=>by cases cs<;>cases hs<;>simp[iv,gz]
 |j,f::c,[],hs,a,b=>by cases a
 |j,f::c,g::cs,[],a,b=>by cases b
 |j,f::c,g::cs,h::hs,a,b=>by have i:=zj (d:=d) (s:=s) (j:=j+1) (res:=c) (cs:=cs) (hs:=hs) (by grind) (by grind);simp only[iv,gz];grind
section
variable {C:c8} {st:aB} {A:cG} {w w':World} {I I' B':Nat->Prop} {rt:Nat->cI} {fp:Nat->cO}
theorem Hu (D:bi C st A w I rt fp) {S:cO}:∀{avs:List ag} {t:cI} {args:List e7} {gs:cD},fY (bk (aY I C.B) w st.h rt fp) avs t->lJ st.h S avs args->jy (tk I' B' w') args t gs->∀a∈eG rt avs args gs,aG (aY I' C.B) w' a.2.1.1 a.2.2.1 a.2.1.2 a.2.2.2/\a.2.2.1=rt a.1/\a.1∈dZ avs args/\∃g,ak st.h a.1=some g/\a.2.1.1=g.1
 |[],t,args,gs,l,p,q,a,b=>by cases args<;>cases gs<;>cases b
 |x::i,t,[],gs,l,p,q,a,b=>by cases x<;>exact p.elim
 |x::i,[],d::u,gs,l,p,q,a,b=>l.elim
 |x::i,v::t,d::u,[],l,p,q,a,b=>q.elim
 |av::i,v::t,d::u,X::gs,l,p,q,a,b=>by
  obtain⟨M,Y⟩:=l;obtain⟨J,Z⟩:=p;obtain⟨K,ad⟩:=q;have am:=Hu D (S:=S) (avs:=i) (args:=u) (gs:=gs) Y Z ad;have e:a∈eG rt i u gs->aG (aY I' C.B) w' a.2.1.1 a.2.2.1 a.2.1.2 a.2.2.2/\a.2.2.1=rt a.1/\a.1∈dZ (av::i) (d::u)/\∃g,ak st.h a.1=some g/\a.2.1.1=g.1:=by
   intro b;obtain⟨aq,P,r,G⟩:=am a b;refine⟨aq,P,?_,G⟩;cases av with
   |ref id f=>cases f<;>cases d<;>simp only[dZ]<;>first|exact eJ _ r|exact r
   |view id f O L=>cases f<;>cases d<;>simp only[dZ]<;>first|exact eJ _ r|exact r
   |_=>cases d<;>exact r
  cases av with
  |ref id f=>
   cases f with
   |cons s f=>exact e (by cases d<;>exact b)
   |nil=>
    cases d with
    |v g=>exact e b
    |o g=>exact e b
    |c n d1=>exact e b
    |n=>exact e b
    |s ci an=>exact e b
    |w a3 i O L Q=>exact e b
    |m g d2=>
     simp only[eG,dk] at b;rcases b with rfl|b
     ·obtain⟨j,N,F⟩:=J;obtain⟨bs,k,z⟩:=K;cases M with|ref y E=>
      rw[j] at y;cases y;obtain⟨rfl,rfl,rfl⟩:=aJ.en.1 E;have:=RO F (D.tree id _ j).1.len z.len k;subst this;exact⟨z.dS N,rfl,by simp[dZ],g,j,rfl⟩
     grind
  |view id f O L=>
   cases f with
   |cons s f=>exact e (by cases d<;>exact b)
   |nil=>
    cases d with
    |w a3 i an k Q=>
     simp only[eG,dk] at b;rcases b with rfl|b
     ·obtain⟨j,⟨rfl,rfl⟩,N,F⟩:=J;obtain⟨d,o,T,k,co,z⟩:=K;cases M with
      |jm=>omega
      |view y E aq P r=>
      rename_i d0 d3 cs R a0 ap V;rw[j] at y;cases y;obtain⟨ai,ce,W⟩:=aJ.en.1 E;simp only[af.osl.injEq] at ai;subst ai;obtain⟨a4,bl,G,_⟩:=(D.tree id _ j).1;have H:rt id=[.slice (some ⟨R,a0,none⟩) ap V]:=W;rw[G] at H;simp only[fd,Value.slice.injEq,and_true] at H;rw[ah U] at k;simp only[Value.slice.injEq,bH,Addr.mk.injEq,and_true] at k;obtain⟨⟨cv,dl⟩,ds,aP⟩:=k;have:rt id=[.slice (some ⟨d,o,none⟩) i.length T]:=(by grind);refine⟨?_,rfl,by simp[dZ],_,j,rfl⟩;show aG (aY I' C.B) w' (.osl _) (rt id) Q X;rw[this];exact z.dS F
     grind
    |_=>exact e b
  |_=>exact e (by cases d<;>exact b)
theorem Hs {x:cO}:∀{as:List ag} {r:List e7} {g:cI} {e:cD},lJ st.h x as r->jy (tk I' B' w') r g e->((eG rt as r e).map (λz=>z.2.2.2)).flatten=e.flatten
 |[],[],g,e,f,d=>by cases g<;>cases e<;>first|rfl|exact d.elim
 |[],q::t,g,e,f,d=>f.elim
 |a::as,[],g,e,f,d=>by cases a<;>exact f.elim
 |a::as,q::t,[],e,f,d=>d.elim
 |a::as,q::t,v::g,[],f,d=>d.elim
 |a::as,q::t,v::g,k::e,f,d=>by
  have y:=Hs (as:=as) f.2 d.2;have l:=f.1;have p:=d.1;rw[iE,<-y];cases q with
  |m u F=>
   cases a with
   |ref id b=>cases b with
    |nil=>grind [List.flatten_cons,eG]
    |cons=>exact l.elim
   |_=>exact l.elim
  |w H E C B G=>
   cases a with
   |view id b i j=>cases b with
    |nil=>grind [List.flatten_cons,eG]
    |cons=>exact l.elim
   |ref id b=>cases b<;>exact l.elim
   |_=>exact l.elim
  |v u=>
   have:k=[]:=p;subst this;cases a with
   |ref id b=>grind [eG]
   |view id b i j=>grind [eG]
   |_=>simp only[eG,hb]
  |o u=>
   have:k=[]:=p;subst this;cases a with
   |ref id b=>grind [eG]
   |view id b i j=>grind [eG]
   |_=>simp only[eG,hb]
  |n=>
   have:k=[]:=p;subst this;cases a with
   |ref id b=>grind [eG]
   |view id b i j=>grind [eG]
   |_=>simp only[eG,hb]
  |s A i=>
   have:k=[]:=p;subst this;cases a with
   |ref id b=>grind [eG]
   |view id b i j=>grind [eG]
   |_=>simp only[eG,hb]
  |c n D=>
   have:k=[]:=p;subst this;cases a with
   |ref id b=>grind [eG]
   |view id b i j=>grind [eG]
   |_=>simp only[eG,hb]
theorem HU {I:Nat->Prop}:∀{f:List az} {c:cI} {b:cD},jy (ws I w) f c b->∃h:cz,h.length=f.length/\b.length=f.length/\c.length=f.length/\∀(e:Nat) (t:az) (d:cI) (a:cO) (g:Value),f[e]?=some t->h[e]?=some d->b[e]?=some a->c[e]?=some g->g=bp t.1 d/\aG (aY I (λ_=>False)) w t.1 d t.2 a
 |[],c,b,a=>by cases c<;>cases b<;>first|exact⟨[],rfl,rfl,rfl,λe t d a g r=>by grind⟩|exact a.elim
 |t::i,[],b,a=>a.elim
 |t::i,g::c,[],a=>a.elim
 |t::i,g::c,p::b,a=>by obtain⟨⟨d,l,u⟩,j⟩:=a;obtain⟨h,v,x,y,s⟩:=HU j;refine⟨d::h,by grind,by grind,by grind,λe z k q A ai m n o=>?_⟩;grind
theorem HW {m:Nat} {n:Bool}:∀{j:Nat} {i:List az} {c:cz} {d:cD},c.length=i.length->d.length=i.length->∀a∈iv m n j i c d,∃e:Nat,i[e]?=some a.2.1/\c[e]?=some a.2.2.1/\d[e]?=some a.2.2.2
 |j,[],c,d,f,g,a,b=>by cases c<;>cases d<;>simp[iv] at b
 |j,k::h,[],d,f,g,a,b=>by cases f
 |j,k::h,l::c,[],f,g,a,b=>by cases g
 |j,k::h,l::c,q::d,f,g,a,b=>by
  simp only[iv] at b;have s:a∈iv m n (j+1) h c d->∃e,(k::h)[e]?=some a.2.1/\(l::c)[e]?=some a.2.2.1/\(q::d)[e]?=some a.2.2.2:=λb=>(by obtain⟨e,ai,o,p⟩:=HW (by grind) (by grind) a b;exact⟨e+1,by rw[nx];exact ai,by rw[nx];exact o,by rw[nx];exact p⟩);cases r:k.1.pure
  ·rw[r] at b;simp only[cond_false,dk] at b;rcases b with rfl|b
   ·exact⟨0,rfl,rfl,rfl⟩
   grind
  grind
theorem HV {d:Nat} {s:Bool}:∀{j:Nat} {res:List az} {cs:cz} {hs:cD},((iv d s j res cs hs).map (λe=>e.2.2.2)).flatten.Sublist hs.flatten
 |j,[],cs,hs=>by simp[iv]
 |j,b::a,[],hs=>by simp[iv]
 |j,b::a,c::cs,[]=>by simp[iv]
 |j,b::a,c::cs,f::hs=>by have g:=HV (d:=d) (s:=s) (j:=j+1) (res:=a) (cs:=cs) (hs:=hs);simp only[iv];grind
theorem DY (o:bi C st A w I rt fp) (g:∀b,C.B b->B' b) (m:∀id a,ak st.h id=some a->bV id n=false->∀b∈fp id,B' b) (d:bk (aY I C.B) w st.h rt fp L E) {a:az} (c:p1 st.h n L a):∃f,E=bp a.1 f/\aG (aY I B') w a.1 f a.2 []:=by
 cases L with
 |val l k=>
  have c:lc l k a.1 a.2:=c;cases d with|val v=>
  exact⟨_,c.st _,c.rep g v ab⟩
 |bD F=>
  obtain⟨aq,z⟩:=c;cases d;grind [mR]
 |ref id y=>
  obtain⟨p,D,l,k,e,u,j⟩:=c;cases d with|ref i s=>
  rw[e] at i;cases i;obtain⟨rfl,x,t,_,r⟩:=o.ip e u s;exact⟨_,j.st _,j.rep g t (λb q=>m id _ e p b (r b q))⟩
 |_=>exact c.elim
def D1 (i:bi C st A w I rt fp) {c:cO} (f:∀b,C.B b->B' b) (g:∀id l,ak st.h id=some l->bV id c=false->∀b∈fp id,B' b):∀{d:List ag} {k:cI} {j:List az},fY (bk (aY I C.B) w st.h rt fp) d k->fY (p1 st.h c) d j->fY (tq I B' w) j k
 |[],[],[],_,_=>trivial
 |[],_::_,_,a,_=>a.elim
 |_::_,[],_,a,_=>a.elim
 |[],_,_::_,_,a=>a.elim
 |_::_,_,[],_,a=>a.elim
 |_::_,_::_,_::_,a,e=>⟨DY i f g a.1 e.1,D1 i f g a.2 e.2⟩
theorem D3 (r:bi C st A w I rt fp) {S:cO} (E:∀d,C.B d->B' d) (H:∀id q,ak st.h id=some q->bV id S=false->∀d∈fp id,B' d):∀{F:List ag} {t:cI} {args:List e7},fY (bk (aY I C.B) w st.h rt fp) F t->lJ st.h S F args->∃e,jy (tj I B' w) args t e/\e.flatten=((dZ F args).map fp).flatten
 |[],t,args,i,g=>by cases args with
  |nil=>cases t with
   |nil=>exact⟨[],trivial,rfl⟩
   |cons=>exact i.elim
  |cons=>exact g.elim
 |x::l,t,[],i,g=>by cases x<;>exact g.elim
 |x::l,[],d::u,i,g=>i.elim
 |av::l,v::t,d::u,i,g=>by
  obtain⟨p,i⟩:=i;obtain⟨a,X⟩:=g;obtain⟨e,f,W⟩:=D3 r E H i X;cases d with
  |v q=>
   have D:dZ (av::l) (.v q::u)=dZ l u:=by cases av<;>first|rfl|(rename_i id b;cases b<;>rfl)|(rename_i id b z D;cases b<;>rfl)
   have a:p1 st.h S av q:=(by cases av<;>exact a);exact⟨[]::e,⟨⟨rfl,DY r E H p a⟩,f⟩,by grind⟩
  |s V z=>
   have D:dZ (av::l) (.s V z::u)=dZ l u:=by cases av<;>first|rfl|(rename_i id b;cases b<;>rfl)|(rename_i id b z D;cases b<;>rfl)
   exact⟨[]::e,⟨rfl,f⟩,by grind⟩
  |n=>
   cases av with
   |bD Q=>
    obtain rfl:Q=.slice none 0 0:=a;cases p;exact⟨[]::e,⟨⟨rfl,rfl⟩,f⟩,by grind [dZ]⟩
   |ref id b=>cases b<;>exact a.elim
   |_=>exact a.elim
  |c n d2=>
   cases av with
   |bZ m z=>
    obtain⟨rfl,a⟩:=a;cases p with|bZ ci Y=>
    rename_i ap;refine⟨[]::e,⟨⟨rfl,ap.toList,rfl,D1 r E H (wE U (λad R d f W=>Y ad R d f (by grind))) a⟩,f⟩,by grind [dZ]⟩
   |ref id b=>cases b<;>exact a.elim
   |_=>exact a.elim
  |w a0 l cs ce d4=>
   cases av with
   |view id b z D=>cases b with
    |nil=>
     obtain⟨k,⟨rfl,rfl⟩,J,am⟩:=a;cases p with
     |jm=>omega
     |view j y aq dl ds=>
     rename_i d1 d5 cv K P O L;rw[k] at j;cases j;obtain⟨ai,bs,T⟩:=aJ.en.1 y;simp only[af.osl.injEq] at ai;subst ai;have N:=(r.tree id _ k).1;have G:rt id=[.slice (some ⟨K,P,none⟩) O L]:=T;have Z:=N;obtain⟨a4,bl,an,d0⟩:=Z;rw[an] at G;simp only[fd,Value.slice.injEq,and_true] at G;have co:l.length=O:=G.2.1;refine⟨fp id::e,⟨⟨K,P,L,?_,⟨J,U,U⟩,?_⟩,f⟩,by grind [List.flatten_cons,dZ]⟩
     ·rw[ah U]
     have:=aG.dS (τ:=.osl a0) (B':=B') am N;grind
    |cons=>exact a.elim
   |ref id b=>cases b<;>exact a.elim
   |_=>exact a.elim
  |m q d3=>
   cases av with
   |ref id b=>cases b with
    |nil=>
     obtain⟨k,J,_⟩:=a;cases p with|ref j y=>
     rw[k] at j;cases j;obtain⟨rfl,rfl,rfl⟩:=aJ.en.1 y;exact⟨fp id::e,⟨⟨rt id,rfl,(r.tree id _ k).1.dS J⟩,f⟩,by grind [List.flatten_cons,dZ]⟩
    |cons=>exact a.elim
   |_=>exact a.elim
  |o q=>
   cases av with
   |ref id b=>cases b with
    |nil=>
     have k:ak st.h id=some q:=a;cases p with|ref j y=>
     rw[k] at j;cases j;obtain⟨rfl,rfl,rfl⟩:=aJ.en.1 y;refine⟨fp id::e,⟨⟨rt id,rfl,(r.tree id _ k).1.mono (λm d M=>⟨?_,bB.refl w d⟩) (λd _=>bB.refl w d)⟩,f⟩,by grind [List.flatten_cons,dZ]⟩;cases m
     ·exact M
     exact M.imp (λg=>g) (E d)
    |cons=>exact a.elim
   |bD Q=>
    obtain⟨rfl,a3,rfl⟩:=a;cases p;exact⟨[]::e,⟨⟨[.slice none 0 0],rfl,none,0,rfl,.inl ⟨rfl,rfl,rfl,rfl⟩⟩,f⟩,by grind [dZ]⟩
   |_=>exact a.elim
end
end
end Go.h1
end
